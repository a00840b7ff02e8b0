/- Lemmas of an evaluator of the given code and of what the functions answer; no condition of its own. -/
import Derived.Test.YtomhcdfflfonfaaEv5
import Derived.Laws.Bits64b
/- From the evaluator's answer to the machine's call: slices of whole numbers that came in. -/
namespace Go.Ev
open Go Go.RowKit
set_option linter.unusedSimpArgs false
set_option linter.unusedVariables false

/-- A slice of whole numbers that came in. -/
structure InRow where
  k : IntKind
  e : TypeId
  a : Option Addr
  len : Nat
  cap : Nat
  zs : List Int
def InRow.av (b : Nat) (r : InRow) : AV := match r.a with | none => .nilSlice | some _ => .slice b 0 r.len
def InRow.loc (r : InRow) : Loc := match r.a with | none => ⟨0, 0, 0, 1⟩ | some x => ⟨x.block, x.off, x.off + r.cap, 1⟩
def H0 (rs : List InRow) : AH := { get := fun b => rs[b]?.map fun r => .cells r.e true (r.zs.map (.int r.k)), next := rs.length }
def mu0 (rs : List InRow) : Mu := fun b => rs[b]?.map InRow.loc
def InRow.row (w : World) (r : InRow) : Prop :=
  (r.a = none ∧ r.len = 0 ∧ r.cap = 0 ∧ r.zs = []) ∨
  ∃ x, r.a = some x ∧ r.len ≤ r.cap ∧ r.cap ≤ maxLen ∧ r.zs.length = r.cap ∧ (∀ i, i < r.zs.length → w.cell? (x.add i) = some (.int r.k (r.zs.getD i 0))) ∧ ∀ n ∈ r.zs, (Lit.int r.k n).wf = true
def InRow.ok (P : Program) (w : World) (r : InRow) : Prop := (P.info? r.e).map (·.size) = some 1 ∧ r.row w

theorem cell_spot {w : World} {x : Addr} {v : Value} (h : w.cell? x = some v) : x.spot = none ∧ x.block < w.heap.size := by
  unfold World.cell? at h
  split at h
  · rename_i c _ _ hc
    refine ⟨?_, ?_⟩
    · split at h
      · simp at h
      · rename_i hs; simpa using hs
    · rcases Nat.lt_or_ge x.block w.heap.size with hl | hl
      · exact hl
      · rw [Array.getElem?_eq_none hl] at hc; simp at hc
  · simp at h

theorem rel0 {P : Program} {w : World} {rs : List InRow} (h : ∀ r ∈ rs, r.ok P w) : Rel P w (H0 rs) (mu0 rs) w := by
  refine ⟨Below.refl _ _, ?_, ?_, ?_, ?_⟩
  · intro b hb; simp only [mu0]; rw [List.getElem?_eq_none hb]; rfl
  · intro b x hb
    simp only [H0, Option.map_eq_some_iff] at hb
    obtain ⟨r, hr, _⟩ := hb
    exact (List.getElem?_eq_some_iff.mp hr).1
  · intro b x hb
    simp only [H0, Option.map_eq_some_iff] at hb
    obtain ⟨r, hr, rfl⟩ := hb
    have hok := h r (List.mem_of_getElem? hr)
    refine ⟨r.loc, by simp [mu0, hr], by rw [List.all_eq_true]; intro a ha; obtain ⟨z, _, rfl⟩ := List.mem_map.mp ha; rfl, ?_, ?_, ?_⟩
    · rw [hok.1]; unfold InRow.loc; split <;> rfl
    · rcases hok.2 with ⟨h1, h2, h3, h4⟩ | ⟨y, h1, h2, h3, h4, h5⟩
      · simp [InRow.loc, h1, h4]
      · simp [InRow.loc, h1, h4]
    · intro i a ha
      rcases hok.2 with ⟨h1, h2, h3, h4⟩ | ⟨y, h1, h2, h3, h4, h5, h6⟩
      · simp [h4] at ha
      · have hi : i < r.zs.length := by
          have := (List.getElem?_eq_some_iff.mp ha).1
          simpa using this
        have hsp : y.spot = none := (cell_spot (by have := h5 0 (by omega); simpa [Addr.add] using this)).1
        have hc := h5 i hi
        have he : y.add i = ⟨y.block, y.off + i, none⟩ := by
          unfold Addr.add; split
          · rename_i h0; subst h0; obtain ⟨b, o, s⟩ := y; simp at hsp; subst hsp; rfl
          · rfl
        rw [he] at hc
        simp only [InRow.loc, h1]
        refine ⟨(cell_spot hc).2, _, hc, ?_⟩
        rw [List.getElem?_map, List.getElem?_eq_getElem hi] at ha
        simp only [Option.map_some, Option.some.injEq] at ha
        subst ha
        simp [VR, List.getD_eq_getElem?_getD, List.getElem?_eq_getElem hi]
  · intro b x hb hrw
    simp only [H0, Option.map_eq_some_iff] at hb
    obtain ⟨r, hr, rfl⟩ := hb
    simp [Blk.rw] at hrw

theorem vr_row {P : Program} {w : World} {rs : List InRow} {b : Nat} {r : InRow} (hb : rs[b]? = some r) (h : r.ok P w) : VR (mu0 rs) (r.av b) (.slice r.a r.len r.cap) := by
  rcases h.2 with ⟨h1, h2, h3, h4⟩ | ⟨y, h1, h2, h3, h4, h5, h6⟩
  · simp [InRow.av, h1, h2, h3, VR]
  · simp only [InRow.av, h1, VR]
    refine ⟨r.loc, r.cap, y, by simp [mu0, hb], rfl, h2, fun hc => ?_⟩
    have hsp : y.spot = none := (cell_spot (by have := h5 0 (by omega); simpa [Addr.add] using this)).1
    obtain ⟨b, o, s⟩ := y; simp at hsp; subst hsp
    simp [InRow.loc, h1]

theorem sl_row {P : Program} {w : World} {rs : List InRow} {b : Nat} {r : InRow} {t : TypeId} (hb : rs[b]? = some r) (h : r.ok P w) (ht : P.underlying t = some (.slice r.e)) (hs : sizeT P r.e = some 1) (ha : aggT P r.e = some false) :
    Sl P t r.e (H0 rs) (r.av b) ((r.zs.take r.len).map (.int r.k)) := by
  refine ⟨ht, hs, ha, ?_⟩
  rcases h.2 with ⟨h1, h2, h3, h4⟩ | ⟨y, h1, h2, h3, h4, h5, h6⟩
  · exact .inl (by simp [InRow.av, h1, h4])
  · refine .inr ⟨b, 0, true, r.zs.map (.int r.k), ?_, ?_, by simp [H0, hb], ?_, ?_⟩
    · have : min r.len r.zs.length = r.len := by omega
      simp [InRow.av, h1, this]
    · exact (List.getElem?_eq_some_iff.mp hb).1
    · simp; omega
    · have : min r.len r.zs.length = r.len := by omega
      simp [this]

theorem law_run {P : Program} (hm : P.follows .mixedOrders = true) {w : World} {rs : List InRow} {n : Nat} {f : FuncId} {args : List AV} {vs : Array Value} {H' : AH}
    (h : ev P n f args (H0 rs) = some (.bool true, H')) (hok : ∀ r ∈ rs, r.ok P w) (hv : VRs (mu0 rs) args vs.toList) :
    Calls P f vs w fun e w' => e = .returned (.bool true) ∧ Below w.heap.size w w' := by
  refine (ev_sound hm n f args (H0 rs) (.bool true) H' (mu0 rs) w vs h (rel0 hok) hv).2.mono ?_
  rintro e w' ⟨v, μ', rfl, hx, hR, hv⟩
  simp only [VR] at hv
  subst hv
  exact ⟨rfl, hR.below⟩
end Go.Ev

/- Data of a type, and how an abstract value shows it in the memory. -/
namespace Go.Ev
open Go Go.RowKit
set_option linter.unusedSimpArgs false
set_option linter.unusedVariables false

/-- The kinds of data: whole numbers, bools, strings, slices (of elements of type e), structs as pairs of fields. -/
inductive Ty where
  | int (k : IntKind)
  | bool
  | str
  | sl (e : TypeId) (t : Ty)
  | pair (a b : Ty)
/-- The data of a kind. -/
@[reducible] def Ty.D : Ty → Type
  | .int _ => Int
  | .bool => Bool
  | .str => ByteArray
  | .sl _ t => List t.D
  | .pair a b => a.D × b.D
/-- How many cells. -/
def Ty.n : Ty → Nat
  | .int _ => 1
  | .bool => 1
  | .str => 1
  | .sl _ _ => 1
  | .pair a b => a.n + b.n

/-- A row of n-cell elements: the cells, what they show, the blocks that they lead to. -/
def Rows {α : Type} (R : List AV → α → List Nat → Prop) (n : Nat) : List AV → List α → List Nat → Prop
  | xs, [], bs => xs = [] ∧ bs = []
  | xs, d :: ds, bs => ∃ c r b1 b2, xs = c ++ r ∧ c.length = n ∧ bs = b1 ++ b2 ∧ R c d b1 ∧ Rows R n r ds b2

/-- The cells c show the datum d; the blocks bs are all that it leads to. With rw: each block is whole and may be written. -/
def Ty.R (rw : Bool) (H : AH) : (t : Ty) → List AV → t.D → List Nat → Prop
  | .int k, c, d, bs => c = [.int k d] ∧ k.min ≤ d ∧ d ≤ k.max ∧ bs = []
  | .bool, c, d, bs => c = [.bool d] ∧ bs = []
  | .str, c, d, bs => c = [.str d] ∧ bs = []
  | .sl e t, c, d, bs => (c = [.nilSlice] ∧ d = [] ∧ bs = []) ∨
      ∃ b o ro xs b', c = [.slice b o d.length] ∧ bs = b :: b' ∧ b < H.next ∧ H.get b = some (.cells e ro xs) ∧ (rw = true → ro = false ∧ o = 0 ∧ xs.length = d.length * t.n) ∧
        o + d.length * t.n ≤ xs.length ∧ Rows (t.R rw H) t.n ((xs.drop o).take (d.length * t.n)) d b'
  | .pair a b, c, d, bs => ∃ c1 c2 b1 b2, c = c1 ++ c2 ∧ bs = b1 ++ b2 ∧ a.R rw H c1 d.1 b1 ∧ b.R rw H c2 d.2 b2

theorem Rows.len {α : Type} {R : List AV → α → List Nat → Prop} {n : Nat} : ∀ {ds : List α} {xs : List AV} {bs : List Nat}, Rows R n xs ds bs → xs.length = ds.length * n
  | [], xs, bs, h => by rw [h.1]; simp
  | d :: ds, xs, bs, ⟨c, r, b1, b2, h1, h2, h3, h4, h5⟩ => by
    rw [h1, List.length_append, h2, h5.len, List.length_cons, Nat.succ_mul]; omega
theorem Rows.imp {α : Type} {R R' : List AV → α → List Nat → Prop} {n : Nat} : ∀ {ds : List α} {xs : List AV} {bs : List Nat}, Rows R n xs ds bs → (∀ c d b1, d ∈ ds → (∀ b ∈ b1, b ∈ bs) → R c d b1 → R' c d b1) → Rows R' n xs ds bs
  | [], xs, bs, h, _ => h
  | d :: ds, xs, bs, ⟨c, r, b1, b2, h1, h2, h3, h4, h5⟩, f =>
    ⟨c, r, b1, b2, h1, h2, h3, f c d b1 (by simp) (fun b hb => by rw [h3]; exact List.mem_append_left _ hb) h4,
      h5.imp fun c d b1 hd hb h => f c d b1 (by simp [hd]) (fun b hb' => by rw [h3]; exact List.mem_append_right _ (hb b hb')) h⟩
theorem Rows.mem {α : Type} {R : List AV → α → List Nat → Prop} {n : Nat} {Q : Nat → Prop} (hR : ∀ c d bs, R c d bs → ∀ b ∈ bs, Q b) : ∀ {ds : List α} {xs : List AV} {bs : List Nat}, Rows R n xs ds bs → ∀ b ∈ bs, Q b
  | [], xs, bs, h => by rw [h.2]; simp
  | d :: ds, xs, bs, ⟨c, r, b1, b2, h1, h2, h3, h4, h5⟩ => by
    intro b hb
    rw [h3] at hb
    rcases List.mem_append.1 hb with hb | hb
    · exact hR _ _ _ h4 b hb
    · exact Rows.mem hR h5 b hb
theorem Rows.app {α : Type} {R : List AV → α → List Nat → Prop} {n : Nat} : ∀ {d1 d2 : List α} {x1 x2 : List AV} {b1 b2 : List Nat}, Rows R n x1 d1 b1 → Rows R n x2 d2 b2 → Rows R n (x1 ++ x2) (d1 ++ d2) (b1 ++ b2)
  | [], d2, x1, x2, b1, b2, h, k => by rw [h.1, h.2]; exact k
  | d :: d1, d2, x1, x2, b1, b2, ⟨c, r, p, q, h1, h2, h3, h4, h5⟩, k =>
    ⟨c, r ++ x2, p, q ++ b2, by rw [h1, List.append_assoc], h2, by rw [h3, List.append_assoc], h4, h5.app k⟩
theorem Rows.split {α : Type} {R : List AV → α → List Nat → Prop} {n : Nat} : ∀ {d1 d2 : List α} {xs : List AV} {bs : List Nat}, Rows R n xs (d1 ++ d2) bs → ∃ x1 x2 b1 b2, xs = x1 ++ x2 ∧ bs = b1 ++ b2 ∧ Rows R n x1 d1 b1 ∧ Rows R n x2 d2 b2
  | [], d2, xs, bs, h => ⟨[], xs, [], bs, rfl, rfl, ⟨rfl, rfl⟩, h⟩
  | d :: d1, d2, xs, bs, ⟨c, r, p, q, h1, h2, h3, h4, h5⟩ => by
    obtain ⟨x1, x2, b1, b2, e1, e2, e3, e4⟩ := Rows.split (d1 := d1) h5
    exact ⟨c ++ x1, x2, p ++ b1, b2, by rw [h1, e1, List.append_assoc], by rw [h3, e2, List.append_assoc], ⟨c, x1, p, b1, rfl, h2, rfl, h4, e3⟩, e4⟩
theorem Rows.one {α : Type} {R : List AV → α → List Nat → Prop} {n : Nat} {d : α} {c : List AV} {bs : List Nat} (h : R c d bs) (hc : c.length = n) : Rows R n c [d] bs :=
  ⟨c, [], bs, [], by simp, hc, by simp, h, rfl, rfl⟩

theorem Ty.R.len {rw : Bool} {H : AH} : ∀ {t : Ty} {c : List AV} {d : t.D} {bs : List Nat}, t.R rw H c d bs → c.length = t.n
  | .int k, c, d, bs, h => by rw [h.1]; rfl
  | .bool, c, d, bs, h => by rw [h.1]; rfl
  | .str, c, d, bs, h => by rw [h.1]; rfl
  | .sl e t, c, d, bs, h => by
    rcases h with h | ⟨b, o, ro, xs, b', h, _⟩
    · rw [h.1]; rfl
    · rw [h]; rfl
  | .pair a b, c, d, bs, ⟨c1, c2, b1, b2, h1, h2, h3, h4⟩ => by
    rw [h1, List.length_append, Ty.R.len h3, Ty.R.len h4]; rfl
theorem Ty.R.mem {rw : Bool} {H : AH} : ∀ {t : Ty} {c : List AV} {d : t.D} {bs : List Nat}, t.R rw H c d bs → ∀ b ∈ bs, b < H.next
  | .int k, c, d, bs, h => by rw [h.2.2.2]; simp
  | .bool, c, d, bs, h => by rw [h.2]; simp
  | .str, c, d, bs, h => by rw [h.2]; simp
  | .sl e t, c, d, bs, h => by
    rcases h with h | ⟨b, o, ro, xs, b', h1, h2, h3, h4, h5, h6, h7⟩
    · rw [h.2.2]; simp
    · intro x hx
      rw [h2] at hx
      rcases List.mem_cons.1 hx with rfl | hx
      · exact h3
      · exact Rows.mem (fun c d bs h => Ty.R.mem h) h7 x hx
  | .pair a b, c, d, bs, ⟨c1, c2, b1, b2, h1, h2, h3, h4⟩ => by
    intro x hx
    rw [h2] at hx
    rcases List.mem_append.1 hx with hx | hx
    · exact Ty.R.mem h3 x hx
    · exact Ty.R.mem h4 x hx
/-- It stays where its blocks stay. -/
theorem Ty.R.stay {rw : Bool} {H H' : AH} (hn : H.next ≤ H'.next) : ∀ {t : Ty} {c : List AV} {d : t.D} {bs : List Nat}, t.R rw H c d bs → (∀ b ∈ bs, H'.get b = H.get b) → t.R rw H' c d bs
  | .int k, c, d, bs, h, _ => h
  | .bool, c, d, bs, h, _ => h
  | .str, c, d, bs, h, _ => h
  | .sl e t, c, d, bs, h, hg => by
    rcases h with h | ⟨b, o, ro, xs, b', h1, h2, h3, h4, h5, h6, h7⟩
    · exact .inl h
    · refine .inr ⟨b, o, ro, xs, b', h1, h2, Nat.lt_of_lt_of_le h3 hn, by rw [hg b (by rw [h2]; simp)]; exact h4, h5, h6, h7.imp fun c d b1 _ hb h => Ty.R.stay hn h fun x hx => hg x (by rw [h2]; exact List.mem_cons_of_mem _ (hb x hx))⟩
  | .pair a b, c, d, bs, ⟨c1, c2, b1, b2, h1, h2, h3, h4⟩, hg =>
    ⟨c1, c2, b1, b2, h1, h2, Ty.R.stay hn h3 fun x hx => hg x (by rw [h2]; exact List.mem_append_left _ hx), Ty.R.stay hn h4 fun x hx => hg x (by rw [h2]; exact List.mem_append_right _ hx)⟩
theorem Ty.R.kp {rw : Bool} {H H' : AH} {t : Ty} {c : List AV} {d : t.D} {bs : List Nat} (h : t.R rw H c d bs) (hK : Kp H H') : t.R rw H' c d bs :=
  h.stay hK.next fun b hb => hK.get b (h.mem b hb)
theorem Ty.R.weak {H : AH} : ∀ {t : Ty} {c : List AV} {d : t.D} {bs : List Nat}, t.R true H c d bs → t.R false H c d bs
  | .int k, c, d, bs, h => h
  | .bool, c, d, bs, h => h
  | .str, c, d, bs, h => h
  | .sl e t, c, d, bs, h => by
    rcases h with h | ⟨b, o, ro, xs, b', h1, h2, h3, h4, h5, h6, h7⟩
    · exact .inl h
    · exact .inr ⟨b, o, ro, xs, b', h1, h2, h3, h4, by simp, h6, h7.imp fun c d b1 _ _ h => Ty.R.weak h⟩
  | .pair a b, c, d, bs, ⟨c1, c2, b1, b2, h1, h2, h3, h4⟩ => ⟨c1, c2, b1, b2, h1, h2, h3.weak, h4.weak⟩
theorem Ty.R.one {rw : Bool} {H : AH} : ∀ {t : Ty} {c : List AV} {d : t.D} {bs : List Nat}, t.R rw H c d bs → c.all AV.one = true
  | .int k, c, d, bs, h => by rw [h.1]; rfl
  | .bool, c, d, bs, h => by rw [h.1]; rfl
  | .str, c, d, bs, h => by rw [h.1]; rfl
  | .sl e t, c, d, bs, h => by
    rcases h with h | ⟨b, o, ro, xs, b', h1, _⟩
    · rw [h.1]; rfl
    · rw [h1]; rfl
  | .pair a b, c, d, bs, ⟨c1, c2, b1, b2, h1, h2, h3, h4⟩ => by
    rw [h1, List.all_append, Ty.R.one h3, Ty.R.one h4]; rfl
/-- Nothing but the blocks of bs turned. -/
structure KoL (bs : List Nat) (H H' : AH) : Prop where
  next : H'.next = H.next
  get : ∀ b, b < H.next → b ∉ bs → H'.get b = H.get b
theorem KoL.refl (bs : List Nat) (H : AH) : KoL bs H H := ⟨rfl, fun _ _ _ => rfl⟩
theorem KoL.trans {bs : List Nat} {A B C : AH} (h : KoL bs A B) (k : KoL bs B C) : KoL bs A C := ⟨k.next.trans h.next, fun b hn hb => (k.get b (by rw [h.next]; exact hn) hb).trans (h.get b hn hb)⟩
theorem KoL.mono {bs bs' : List Nat} {A B : AH} (h : KoL bs A B) (hs : ∀ b ∈ bs, b ∈ bs') : KoL bs' A B := ⟨h.next, fun b hn hb => h.get b hn fun hx => hb (hs b hx)⟩
theorem KoL.kp {bs : List Nat} {A B C : AH} (h : Kp A B) (k : KoL bs B C) (hlo : ∀ b ∈ bs, A.next ≤ b) : Kp A C :=
  ⟨by rw [k.next]; exact h.next, fun b hb => by rw [k.get b (by have := h.next; omega) fun hx => absurd (hlo b hx) (by omega)]; exact h.get b hb⟩
theorem KoL.set {bs : List Nat} {A B : AH} {b : Nat} (h : KoL bs A B) (hb : b ∈ bs) (x : Blk) : KoL bs A (B.set b x) :=
  ⟨h.next, fun c hn hc => by rw [AH.set_get, if_neg (fun e => hc (by rw [e]; exact hb))]; exact h.get c hn hc⟩
theorem Ty.R.koL {rw : Bool} {H H' : AH} {t : Ty} {c : List AV} {d : t.D} {bs bs' : List Nat} (h : t.R rw H c d bs) (hK : KoL bs' H H') (hd : ∀ b ∈ bs, b ∉ bs') : t.R rw H' c d bs :=
  h.stay (by rw [hK.next]; exact Nat.le_refl _) fun b hb => hK.get b (h.mem b hb) (hd b hb)
/-- made anew behind H -/
def Fresh (H H' : AH) (t : Ty) (c : List AV) (d : t.D) (bs : List Nat) : Prop := t.R true H' c d bs ∧ bs.Nodup ∧ ∀ b ∈ bs, H.next ≤ b
/-- The value of cells: a struct is all of them, anything else is its one cell. -/
def vof (agg : Bool) (c : List AV) : AV := if agg then .agg c else c.headD .nilPtr
@[simp] theorem vof_t (c : List AV) : vof true c = .agg c := rfl
@[simp] theorem vof_f (v : AV) (l : List AV) : vof false (v :: l) = v := rfl

/-! slices -/
section
variable {P : Program}
theorem Ty.R.lenA {rw : Bool} {H : AH} {e : TypeId} {t : Ty} {s : AV} {d : List t.D} {bs : List Nat} (h : (Ty.sl e t).R rw H [s] d bs) {T : TypeId} (hT : P.underlying T = some (.slice e)) (h' : AH) : Go.Ev.lenA P T s h' = some (.int .i64 d.length) := by
  rcases h with ⟨h1, h2, _⟩ | ⟨b, o, ro, xs, b', h1, _⟩
  · simp only [List.cons.injEq, and_true] at h1; subst h1; subst h2; simp [Go.Ev.lenA, hT]
  · simp only [List.cons.injEq, and_true] at h1; subst h1; simp [Go.Ev.lenA, hT]
/-- an element: where it lies and what it shows -/
theorem Ty.R.at_ {rw : Bool} {H : AH} {e : TypeId} {t : Ty} {s : AV} {d : List t.D} {bs : List Nat} (h : (Ty.sl e t).R rw H [s] d bs) {T : TypeId} (hT : P.underlying T = some (.slice e)) (hn : sizeT P e = some t.n) {k : Nat} (hk : k < d.length) :
    ∃ b o ro x1 c x2 bk, idxA P T s (.int .i64 k) = some (.ptr b o) ∧ b < H.next ∧ H.get b = some (.cells e ro (x1 ++ c ++ x2)) ∧ x1.length = o ∧ t.R rw H c d[k] bk ∧ (∀ x ∈ bk, x ∈ bs) ∧ b ∈ bs ∧ (rw = true → ro = false) := by
  rcases h with ⟨h1, h2, _⟩ | ⟨b, o, ro, xs, b', h1, h2, h3, h4, h5, h6, h7⟩
  · subst h2; simp at hk
  · simp only [List.cons.injEq, and_true] at h1; subst h1
    have hd : d = d.take k ++ d[k] :: d.drop (k + 1) := by rw [← List.drop_eq_getElem_cons hk, List.take_append_drop]
    rw [hd] at h7
    obtain ⟨p1, p2, q1, q2, e1, e2, e3, e4⟩ := h7.split
    obtain ⟨c, r, b1, b2, g1, g2, g3, g4, g5⟩ := e4
    rw [← hd] at e1
    have hp := e3.len
    rw [List.length_take, Nat.min_eq_left (Nat.le_of_lt hk)] at hp
    have hx : xs = (xs.take o ++ p1) ++ c ++ (r ++ (xs.drop o).drop (d.length * t.n)) := by
      rw [g1] at e1
      have := List.take_append_drop o xs
      rw [← List.take_append_drop (d.length * t.n) (xs.drop o), e1] at this
      refine this.symm.trans ?_
      simp only [List.append_assoc]
    refine ⟨b, o + k * t.n, ro, _, c, _, b1, ?_, h3, by rw [h4]; congr 2, ?_, g4, ?_, by rw [h2]; simp, fun hr => (h5 hr).1⟩
    · simp [idxA, hT, hn, hk]
    · rw [List.length_append, List.length_take, hp, Nat.min_eq_left (by omega)]
    · intro x hx'
      rw [h2, e2, g3]
      simp [hx']
/-- an element that may be written: what else must stay -/
theorem Ty.R.upd {H : AH} {e : TypeId} {t : Ty} {s : AV} {d : List t.D} {bs : List Nat} (h : (Ty.sl e t).R true H [s] d bs) (hnd : bs.Nodup) {T : TypeId} (hT : P.underlying T = some (.slice e)) (hn : sizeT P e = some t.n) {k : Nat} (hk : k < d.length) :
    ∃ b o x1 c x2 bk, idxA P T s (.int .i64 k) = some (.ptr b o) ∧ b < H.next ∧ H.get b = some (.cells e false (x1 ++ c ++ x2)) ∧ x1.length = o ∧ t.R true H c d[k] bk ∧ (∀ x ∈ bk, x ∈ bs) ∧ b ∈ bs ∧ b ∉ bk ∧ bk.Nodup ∧
      ∀ (H' : AH) (c' : List AV) (d' : t.D), H.next ≤ H'.next → (∀ x ∈ bs, x ≠ b → x ∉ bk → H'.get x = H.get x) → H'.get b = some (.cells e false (x1 ++ c' ++ x2)) → t.R true H' c' d' bk → (Ty.sl e t).R true H' [s] (d.set k d') bs := by
  rcases h with ⟨h1, h2, _⟩ | ⟨b, o, ro, xs, b', h1, h2, h3, h4, h5, h6, h7⟩
  · subst h2; simp at hk
  · simp only [List.cons.injEq, and_true] at h1; subst h1
    obtain ⟨rfl, rfl, hw⟩ := h5 rfl
    have hd : d = d.take k ++ d[k] :: d.drop (k + 1) := by rw [← List.drop_eq_getElem_cons hk, List.take_append_drop]
    rw [List.drop_zero, ← hw, List.take_length] at h7
    rw [hd] at h7
    obtain ⟨p1, p2, q1, q2, e1, e2, e3, e4⟩ := h7.split
    obtain ⟨c, r, b1, b2, g1, g2, g3, g4, g5⟩ := e4
    have hp := e3.len
    rw [List.length_take, Nat.min_eq_left (Nat.le_of_lt hk)] at hp
    have hx : xs = p1 ++ c ++ r := by rw [e1, g1, List.append_assoc]
    rw [h2, e2, g3] at hnd
    have hnd' := hnd
    rw [List.nodup_cons, List.nodup_append, List.nodup_append] at hnd
    obtain ⟨n1, n2, ⟨n3, n4, n5⟩, n6⟩ := hnd
    refine ⟨b, 0 + k * t.n, p1, c, r, b1, ?_, h3, by rw [h4, hx], by omega, g4, ?_, by rw [h2]; simp, fun hb => n1 (by simp [hb]), n3, ?_⟩
    · simp [idxA, hT, hn, hk]
    · intro x hx'
      rw [h2, e2, g3]
      simp [hx']
    · intro H' c' d' hnx hst hgb hR
      have hst1 : ∀ x ∈ q1, H'.get x = H.get x := fun x hx' => hst x (by rw [h2, e2, g3]; simp [hx']) (fun e => n1 (by rw [← e]; simp [hx'])) (fun hb => n6 x hx' x (by simp [hb]) rfl)
      have hst2 : ∀ x ∈ b2, H'.get x = H.get x := fun x hx' => hst x (by rw [h2, e2, g3]; simp [hx']) (fun e => n1 (by rw [← e]; simp [hx'])) (fun hb => n5 x hb x hx' rfl)
      have hset : d.set k d' = d.take k ++ d' :: d.drop (k + 1) := by
        rw [List.set_eq_take_append_cons_drop, if_pos hk]
      have hlc := hR.len
      have hlr := g5.len
      have hl : (p1 ++ c' ++ r).length = xs.length := by rw [hx]; simp; omega
      refine .inr ⟨b, 0, false, p1 ++ c' ++ r, b', by simp, h2, Nat.lt_of_lt_of_le h3 hnx, hgb, fun _ => ⟨rfl, rfl, by rw [hl, hw]; simp⟩, by rw [hl, hw]; simp, ?_⟩
      rw [List.length_set, List.drop_zero, ← hw, ← hl, List.take_length, hset, e2, g3, List.append_assoc]
      exact (e3.imp fun c d b3 _ hb h => h.stay hnx fun x hx' => hst1 x (hb x hx')).app ⟨c', r, b1, b2, rfl, hlc, rfl, hR, g5.imp fun c d b3 _ hb h => h.stay hnx fun x hx' => hst2 x (hb x hx')⟩
/-- a load from the middle of a block -/
theorem ld_mid {H : AH} {b o j : Nat} {e T : TypeId} {ro : Bool} {x1 c x2 : List AV} (h : H.get b = some (.cells e ro (x1 ++ c ++ x2))) (ho : x1.length = o) (ha : aggT P T = some false) (hj : j < c.length) : ldVar P T b (o + j) H = c[j]? := by
  rw [ld_one h ha, List.append_assoc, List.getElem?_append_right (by omega), List.getElem?_append_left (by omega)]
  congr 1; omega
theorem ld_mid0 {H : AH} {b o : Nat} {e T : TypeId} {ro : Bool} {x1 x2 : List AV} {v : AV} (h : H.get b = some (.cells e ro (x1 ++ [v] ++ x2))) (ho : x1.length = o) (ha : aggT P T = some false) : ldVar P T b o H = some v := by
  have := ld_mid (j := 0) h ho ha (by simp)
  simpa using this
theorem ld_midA {H : AH} {b o j n : Nat} {e T : TypeId} {ro : Bool} {x1 c x2 : List AV} (h : H.get b = some (.cells e ro (x1 ++ c ++ x2))) (ho : x1.length = o) (ha : aggT P T = some true) (hs : sizeT P T = some n) (hj : j + n ≤ c.length) : ldVar P T b (o + j) H = some (.agg ((c.drop j).take n)) := by
  have hl : (x1 ++ c ++ x2).length = o + c.length + x2.length := by simp; omega
  rw [ld_agg h ha hs (by omega)]
  congr 2
  rw [List.append_assoc, List.drop_append, List.drop_eq_nil_of_le (by omega), List.nil_append]
  have : o + j - x1.length = j := by omega
  rw [this, List.drop_append_of_le_length (by omega), List.take_append_of_le_length (by simp; omega)]
/-- a store into the middle of a block -/
theorem st_mid {H : AH} {b o j : Nat} {e T : TypeId} {x1 c x2 : List AV} {v : AV} (h : H.get b = some (.cells e false (x1 ++ c ++ x2))) (ho : x1.length = o) (hs : sizeT P T = some 1) (h1 : v.one = true) (hj : j < c.length) :
    stVar P T b (o + j) v H = some (H.set b (.cells e false (x1 ++ c.set j v ++ x2))) := by
  rw [st_one h hs h1 (by simp; omega)]
  congr 4
  rw [List.append_assoc, List.set_append_right _ _ (by omega), List.set_append_left _ _ (by omega), ← List.append_assoc]
  congr 3; omega
end

/-! marks -/
/-- the decimal digits of n, ahead of acc -/
def mtDig (n : Nat) (acc : ByteArray) : ByteArray := if h : n = 0 then acc else mtDig (n / 10) (ByteArray.mk #[UInt8.ofNat (48 + n % 10)] ++ acc)
termination_by n
decreasing_by omega
/-- the name that mark lays into a string -/
def markTextD (k : Int) : ByteArray := ByteArray.mk #[109] ++ (if k ≤ 0 then ByteArray.mk #[48] else mtDig k.toNat ByteArray.empty)
def mkRow {α : Type} (f : Int → α → α) (c : α → Nat) : Int → List α → List α
  | _, [] => []
  | k, d :: ds => f k d :: mkRow f c (k + c d) ds
theorem mkRow_len {α : Type} (f : Int → α → α) (c : α → Nat) : ∀ (k : Int) (ds : List α), (mkRow f c k ds).length = ds.length
  | _, [] => rfl
  | k, d :: ds => by simp [mkRow, mkRow_len f c]
def cntL {α : Type} (c : α → Nat) : List α → Nat
  | [] => 0
  | d :: ds => c d + cntL c ds
theorem cntL_app {α : Type} (c : α → Nat) : ∀ (l r : List α), cntL c (l ++ r) = cntL c l + cntL c r
  | [], r => by simp [cntL]
  | d :: l, r => by simp only [List.cons_append, cntL, cntL_app c l r]; omega
theorem mkRow_app {α : Type} (f : Int → α → α) (c : α → Nat) : ∀ (l r : List α) (k : Int), mkRow f c k (l ++ r) = mkRow f c k l ++ mkRow f c (k + (cntL c l : Nat)) r
  | [], r, k => by simp [mkRow, cntL]
  | d :: l, r, k => by
    simp only [List.cons_append, mkRow, mkRow_app f c l r, cntL]
    congr 3; push_cast; omega
/-- how many marks (slot: in a slice's slot) -/
def Ty.cnt (slot : Bool) : (t : Ty) → t.D → Nat
  | .int _, _ => if slot then 1 else 0
  | .bool, _ => if slot then 1 else 0
  | .str, _ => if slot then 1 else 0
  | .sl _ t, ds => cntL (t.cnt true) ds
  | .pair a b, d => a.cnt slot d.1 + b.cnt slot d.2
/-- what mark leaves -/
def Ty.mk (slot : Bool) : (t : Ty) → Int → t.D → t.D
  | .int k, m, d => if slot then k.wrap m else d
  | .bool, m, d => if slot then decide (m % 3 = 0) else d
  | .str, m, d => if slot then markTextD m else d
  | .sl _ t, m, ds => mkRow (t.mk true) (t.cnt true) m ds
  | .pair a b, m, d => (a.mk slot m d.1, b.mk slot (m + (a.cnt slot d.1 : Nat)) d.2)
theorem cnt_int (k : IntKind) (l : List Int) : cntL ((Ty.int k).cnt true) l = l.length := by
  induction l with
  | nil => rfl
  | cons d l ih =>
    have : cntL ((Ty.int k).cnt true) (d :: l) = 1 + cntL ((Ty.int k).cnt true) l := rfl
    rw [this, ih, List.length_cons]; omega
instance Ty.dec : (t : Ty) → DecidableEq t.D
  | .int _ => inferInstanceAs (DecidableEq Int)
  | .bool => inferInstanceAs (DecidableEq Bool)
  | .str => inferInstanceAs (DecidableEq ByteArray)
  | .sl _ t => @instDecidableEqList _ (Ty.dec t)
  | .pair a b => @instDecidableEqProd _ _ (Ty.dec a) (Ty.dec b)
end Go.Ev

/- One element behind a slice of its own. -/
namespace Go.Ev
open Go Go.RowKit
set_option linter.unusedSimpArgs false
set_option linter.unusedVariables false

/-- Nothing but the blocks of bs turned; there may be new ones. -/
structure KoS (bs : List Nat) (H H' : AH) : Prop where
  next : H.next ≤ H'.next
  get : ∀ b, b < H.next → b ∉ bs → H'.get b = H.get b
theorem KoS.refl (bs : List Nat) (H : AH) : KoS bs H H := ⟨Nat.le_refl _, fun _ _ _ => rfl⟩
theorem KoL.koS {bs : List Nat} {A B : AH} (h : KoL bs A B) : KoS bs A B := ⟨by rw [h.next]; exact Nat.le_refl _, h.get⟩
theorem Kp.koS {A B : AH} (h : Kp A B) (bs : List Nat) : KoS bs A B := ⟨h.next, fun b hb _ => h.get b hb⟩
theorem KoS.mono {bs bs' : List Nat} {A B : AH} (h : KoS bs A B) (hs : ∀ b ∈ bs, b ∈ bs' ∨ A.next ≤ b) : KoS bs' A B :=
  ⟨h.next, fun b hn hb => h.get b hn fun hx => by rcases hs b hx with h | h; exact hb h; omega⟩
theorem KoS.trans {bs bs' : List Nat} {A B C : AH} (h : KoS bs A B) (k : KoS bs' B C) (hs : ∀ b ∈ bs', b ∈ bs ∨ A.next ≤ b) : KoS bs A C :=
  ⟨Nat.le_trans h.next k.next, fun b hn hb => (k.get b (Nat.lt_of_lt_of_le hn h.next) fun hx => by rcases hs b hx with h | h; exact hb h; omega).trans (h.get b hn hb)⟩
theorem KoS.kp {bs : List Nat} {A B C : AH} (h : Kp A B) (k : KoS bs B C) (hlo : ∀ b ∈ bs, A.next ≤ b) : Kp A C :=
  ⟨Nat.le_trans h.next k.next, fun b hb => by rw [k.get b (Nat.lt_of_lt_of_le hb h.next) fun hx => absurd (hlo b hx) (by omega)]; exact h.get b hb⟩
theorem Ty.R.koS {rw : Bool} {H H' : AH} {t : Ty} {c : List AV} {d : t.D} {bs bs' : List Nat} (h : t.R rw H c d bs) (hK : KoS bs' H H') (hd : ∀ b ∈ bs, b ∉ bs') : t.R rw H' c d bs :=
  h.stay hK.next fun b hb => hK.get b (h.mem b hb) (hd b hb)

theorem rows_int {rw : Bool} {H : AH} {k : IntKind} : ∀ {ds : List Int} {xs : List AV} {bs : List Nat}, Rows ((Ty.int k).R rw H) 1 xs ds bs ↔ xs = ds.map (.int k) ∧ bs = [] ∧ ∀ d ∈ ds, k.min ≤ d ∧ d ≤ k.max
  | [], xs, bs => by simp [Rows]
  | d :: ds, xs, bs => by
    constructor
    · rintro ⟨c, r, b1, b2, h1, h2, h3, ⟨h4, h5, h6, h7⟩, h8⟩
      obtain ⟨g1, g2, g3⟩ := rows_int.1 h8
      subst h1 h3 h4 h7 g1 g2
      exact ⟨by simp, by simp, by simpa using ⟨⟨h5, h6⟩, g3⟩⟩
    · rintro ⟨rfl, rfl, h3⟩
      exact ⟨[.int k d], ds.map (.int k), [], [], by simp, rfl, rfl, ⟨rfl, (h3 d (by simp)).1, (h3 d (by simp)).2, rfl⟩, rows_int.2 ⟨rfl, rfl, fun x hx => h3 x (by simp [hx])⟩⟩
variable {P : Program}
theorem conv_int {s d : TypeId} {ds : TypeDesc} {k k0 : IntKind} {n : Int} {H : AH} (hs : P.underlying s = some ds) (hd : P.underlying d = some (.int k)) : convA P s d (.int k0 n) H = some (.int k (k.wrap n), H) := by
  simp [convA, hs, hd]
theorem conv_same {s e : TypeId} {b o n : Nat} {H : AH} {e' : TypeId} {xs : List AV} (hs : P.underlying s = some (.slice e)) (he : P.underlying e = some (.int .u8)) (hb : H.get b = some (.cells e' false xs)) (hn : n ≠ 0) : convA P s s (.slice b o n) H = some (.slice b o n, H) := by
  simp [convA, hs, he, hb, hn]
theorem u8s_map : ∀ (l : List Int), u8s (l.map (.int .u8)) = some l
  | [] => rfl
  | x :: l => by simp [u8s, u8s_map l]
theorem conv_str {s d e : TypeId} {x : AV} {l : List Int} {H : AH} {bs : List Nat} {rw : Bool} (hs : P.underlying s = some (.slice e)) (hd : P.underlying d = some .string) (he : P.underlying e = some (.int .u8)) (h : (Ty.sl e (.int .u8)).R rw H [x] l bs) : convA P s d x H = some (.str (strOf l), H) := by
  have hr : rowOf 1 H x = some (l.map (.int .u8)) := by
    rcases h with ⟨h1, h2, h3⟩ | ⟨b, o, ro, xs, b', h1, h2, h3, h4, h5, h6, h7⟩
    · simp only [List.cons.injEq, and_true] at h1; subst h1 h2; rfl
    · simp only [List.cons.injEq, and_true] at h1; subst h1
      simp only [Ty.n, Nat.mul_one] at h6 h7
      obtain ⟨g1, g2, g3⟩ := rows_int.1 h7
      simp [rowOf, h4, h6, g1]
  cases x <;> simp [convA, hs, hd, he, hr, u8s_map] <;> simp [rowOf] at hr
theorem Ty.R.app1 {H : AH} {e T : TypeId} {t : Ty} {s : AV} {c : List AV} {ds : List t.D} {d : t.D} {bs b1 : List Nat} (h : (Ty.sl e t).R true H [s] ds bs) (hv : t.R true H c d b1) (hnd : (bs ++ b1).Nodup)
    (hT : P.underlying T = some (.slice e)) (hT' : sliceT P T = some e) (hs : sizeT P e = some t.n) {by_ : Nat} (hb : bytesT P e = some by_) {z : List AV} (hz : zeroT P e = some z) (hzl : z.length = t.n)
    (h1 : (ds.length + 1) * by_ ≤ 70368744177664) (h2 : ds.length + 1 ≤ 70368744177664) :
    ∃ s' H' bs', appA P T T s (.slice H.next 0 1) (H.push (.cells e false c)) = some (s', H') ∧ (Ty.sl e t).R true H' [s'] (ds ++ [d]) bs' ∧ bs'.Nodup ∧ (∀ b ∈ bs', b ∈ bs ∨ b ∈ b1 ∨ H.next ≤ b) ∧ KoS bs H H' := by
  have hc := hv.len
  have hnews : newsA P t.n T (.slice H.next 0 1) (H.push (.cells e false c)) = some (1, c) := by
    have ht : c.take t.n = c := by rw [← hc, List.take_length]
    simp [newsA, hT, rowOf, hc, ht]
  unfold appA
  simp only [hT', hs, hb, hz, hnews, if_pos hzl]
  rcases h with ⟨g1, g2, g3⟩ | ⟨b, o, ro, xs, b', g1, g2, g3, g4, g5, g6, g7⟩
  · simp only [List.cons.injEq, and_true] at g1; subst g1 g2 g3
    simp at h1
    refine ⟨.slice (H.next + 1) 0 1, (H.push (.cells e false c)).push (.cells e false c), (H.next + 1) :: b1, by simp [h1], .inr ⟨H.next + 1, 0, false, c, b1, rfl, rfl, by simp, by simp, fun _ => ⟨rfl, rfl, by simp [hc]⟩, by simp [hc], ?_⟩, ?_, ?_, ?_⟩
    · have ht : c.take t.n = c := by rw [← hc, List.take_length]
      simp only [List.nil_append, List.length_singleton, Nat.one_mul, List.drop_zero, ht]
      exact Rows.one (hv.stay (by simp; omega) fun x hx => by
        have := hv.mem x hx
        rw [AH.push_get, if_neg (by simp; omega), AH.push_get, if_neg (by omega)]) hc
    · rw [List.nodup_cons]
      exact ⟨fun hx => by have := hv.mem _ hx; omega, by simpa using hnd⟩
    · intro x hx
      rcases List.mem_cons.1 hx with rfl | hx
      · right; right; omega
      · exact .inr (.inl hx)
    · exact ⟨by simp; omega, fun x hx _ => by rw [AH.push_get, if_neg (by simp; omega), AH.push_get, if_neg (by omega)]⟩
  · simp only [List.cons.injEq, and_true] at g1; subst g1
    obtain ⟨rfl, rfl, hw⟩ := g5 rfl
    have hne : ¬ (b = H.next) := by omega
    have hxs : (xs.drop 0).take (ds.length * t.n) = xs := by rw [List.drop_zero, ← hw, List.take_length]
    rw [hxs] at g7
    subst g2
    have hnd' := hnd
    rw [List.nodup_append, List.nodup_cons] at hnd
    obtain ⟨⟨n1, n2⟩, n3, n4⟩ := hnd
    have hst : ∀ x, x < H.next → x ≠ b → (((H.push (.cells e false c)).kill b).push (.cells e false (xs ++ c))).get x = H.get x := by
      intro x hx hxb
      rw [AH.push_get, if_neg (by simp; omega), AH.kill_get, if_neg hxb, AH.push_get, if_neg (by omega)]
    have hge : (H.push (Blk.cells e false c)).get b = some (.cells e false xs) := by rw [AH.push_get, if_neg hne]; exact g4
    refine ⟨.slice (H.next + 1) 0 (ds.length + 1), ((H.push (.cells e false c)).kill b).push (.cells e false (xs ++ c)), (H.next + 1) :: (b' ++ b1), ?_, .inr ⟨H.next + 1, 0, false, xs ++ c, b' ++ b1, by simp, rfl, by simp, by simp, fun _ => ⟨rfl, rfl, ?_⟩, ?_, ?_⟩, ?_, ?_, ?_⟩
    · simp only [hge]
      rw [if_neg (by omega), if_pos ⟨trivial, by omega, h1, h2⟩, hxs]
      simp
    · rw [List.length_append, hc, hw, List.length_append, List.length_singleton, Nat.succ_mul]
    · rw [List.length_append, List.length_append, hc, hw, List.length_singleton, Nat.succ_mul]; omega
    · have : ((xs ++ c).drop 0).take ((ds ++ [d]).length * t.n) = xs ++ c := by
        rw [List.drop_zero, List.length_append, List.length_singleton, Nat.succ_mul, ← hw, ← hc, ← List.length_append, List.take_length]
      rw [this]
      refine (g7.imp fun c d b3 _ hb h => h.stay (by simp; omega) fun x hx => hst x (h.mem x hx) fun e => n1 (by rw [← e]; exact hb x hx)).app (Rows.one (hv.stay (by simp; omega) fun x hx => hst x (hv.mem x hx) fun e => n4 b (by simp) x hx e.symm) hc)
    · rw [List.nodup_cons, List.nodup_append]
      refine ⟨fun hx => ?_, n2, n3, fun x hx y hy => n4 x (by simp [hx]) y hy⟩
      rcases List.mem_append.1 hx with hx | hx
      · have := Rows.mem (fun c d bs h => Ty.R.mem h) g7 _ hx; omega
      · have := hv.mem _ hx; omega
    · intro x hx
      rcases List.mem_cons.1 hx with rfl | hx
      · right; right; omega
      · rcases List.mem_append.1 hx with hx | hx
        · exact .inl (by simp [hx])
        · exact .inr (.inl hx)
    · exact ⟨by simp; omega, fun x hx hxb => hst x hx fun e => hxb (by simp [e])⟩
/-- a row of whole numbers in one block of its own -/
theorem ints_one {H : AH} {e : TypeId} {k : IntKind} {l : List Int} {b : Nat} (hn : b < H.next) (hg : H.get b = some (.cells e false (l.map (.int k)))) (hb : ∀ d ∈ l, k.min ≤ d ∧ d ≤ k.max) : (Ty.sl e (.int k)).R true H [.slice b 0 l.length] l [b] := by
  refine .inr ⟨b, 0, false, l.map (.int k), [], rfl, rfl, hn, hg, fun _ => ⟨rfl, rfl, by simp [Ty.n]⟩, by simp [Ty.n], ?_⟩
  simp only [Ty.n, Nat.mul_one, List.drop_zero]
  have : (l.map (AV.int k)).take l.length = l.map (.int k) := by rw [List.take_of_length_le (by simp)]
  rw [this]
  exact rows_int.2 ⟨rfl, rfl, hb⟩
theorem ints_in {H : AH} {e : TypeId} {k : IntKind} {l : List Int} {s : AV} {bs : List Nat} {rw : Bool} (h : (Ty.sl e (.int k)).R rw H [s] l bs) : ∀ d ∈ l, k.min ≤ d ∧ d ≤ k.max := by
  rcases h with ⟨h1, h2, h3⟩ | ⟨b, o, ro, xs, b', h1, h2, h3, h4, h5, h6, h7⟩
  · subst h2; simp
  · simp only [Ty.n, Nat.mul_one] at h7
    exact (rows_int.1 h7).2.2
theorem ints_own {H : AH} {e : TypeId} {k : IntKind} {l : List Int} {s : AV} {bs : List Nat} (h : (Ty.sl e (.int k)).R true H [s] l bs) : (s = .nilSlice ∧ l = [] ∧ bs = []) ∨ ∃ b, bs = [b] ∧ s = .slice b 0 l.length ∧ b < H.next ∧ H.get b = some (.cells e false (l.map (.int k))) := by
  rcases h with ⟨h1, h2, h3⟩ | ⟨b, o, ro, xs, b', h1, h2, h3, h4, h5, h6, h7⟩
  · simp only [List.cons.injEq, and_true] at h1; subst h1 h2 h3
    exact .inl ⟨rfl, rfl, rfl⟩
  · simp only [List.cons.injEq, and_true] at h1; subst h1
    obtain ⟨rfl, rfl, hw⟩ := h5 rfl
    simp only [Ty.n, Nat.mul_one] at h6 h7 hw
    obtain ⟨g1, g2, g3⟩ := rows_int.1 h7
    rw [List.drop_zero, ← hw, List.take_length] at g1
    subst g1 g2
    exact .inr ⟨b, by rw [h2], rfl, h3, h4⟩
theorem ints_news {H : AH} {e T : TypeId} {k : IntKind} {l : List Int} {s : AV} {bs : List Nat} {rw : Bool} (h : (Ty.sl e (.int k)).R rw H [s] l bs) (hT : P.underlying T = some (.slice e)) : newsA P 1 T s H = some (l.length, l.map (.int k)) := by
  rcases h with ⟨h1, h2, h3⟩ | ⟨b, o, ro, xs, b', h1, h2, h3, h4, h5, h6, h7⟩
  · simp only [List.cons.injEq, and_true] at h1; subst h1 h2
    simp [newsA, hT]
  · simp only [List.cons.injEq, and_true] at h1; subst h1
    simp only [Ty.n, Nat.mul_one] at h6 h7
    obtain ⟨g1, g2, g3⟩ := rows_int.1 h7
    simp [newsA, hT, rowOf, h4, h6, g1]
/-- whole numbers behind a slice of its own -/
theorem Ty.R.appI {H : AH} {e T : TypeId} {k : IntKind} {s x : AV} {ds xs : List Int} {bs bx : List Nat} {rx : Bool} (h : (Ty.sl e (.int k)).R true H [s] ds bs) (hx : (Ty.sl e (.int k)).R rx H [x] xs bx)
    (hT : P.underlying T = some (.slice e)) (hT' : sliceT P T = some e) (hs : sizeT P e = some 1) {by_ : Nat} (hb : bytesT P e = some by_) {z : List AV} (hz : zeroT P e = some z) (hzl : z.length = 1)
    (h1 : (ds.length + xs.length) * by_ ≤ 70368744177664) (h2 : ds.length + xs.length ≤ 70368744177664) :
    ∃ s' H' bs', appA P T T s x H = some (s', H') ∧ (Ty.sl e (.int k)).R true H' [s'] (ds ++ xs) bs' ∧ bs'.Nodup ∧ (∀ b ∈ bs', b ∈ bs ∨ H.next ≤ b) ∧ KoS bs H H' := by
  have hn := ints_news (P := P) hx hT
  have hin : ∀ d ∈ ds ++ xs, k.min ≤ d ∧ d ≤ k.max := by
    intro d hd
    rcases List.mem_append.1 hd with hd | hd
    · exact ints_in h d hd
    · exact ints_in hx d hd
  unfold appA
  simp only [hT', hs, hb, hz, hn, if_pos hzl]
  rcases ints_own h with ⟨rfl, rfl, rfl⟩ | ⟨b, rfl, rfl, hlt, hg⟩
  · by_cases h0 : xs.length = 0
    · have : xs = [] := List.eq_nil_of_length_eq_zero h0
      subst this
      exact ⟨.nilSlice, H, [], by simp, .inl ⟨rfl, rfl, rfl⟩, by simp, by simp, KoS.refl _ _⟩
    · simp only [List.length_nil, Nat.zero_add] at h1 h2
      refine ⟨.slice H.next 0 xs.length, H.push (.cells e false (xs.map (.int k))), [H.next], by simp [h0, h1, h2], ?_, by simp, by simp, ((Kp.refl H).push _).koS _⟩
      simpa using ints_one (l := xs) (by simp) (by simp) (by simpa using hin)
  · by_cases h0 : xs.length = 0
    · have : xs = [] := List.eq_nil_of_length_eq_zero h0
      subst this
      exact ⟨.slice b 0 ds.length, H, [b], by simp, by simpa using h, by simp, by simp, KoS.refl _ _⟩
    · refine ⟨.slice H.next 0 (ds.length + xs.length), (H.kill b).push (.cells e false ((ds ++ xs).map (.int k))), [H.next], ?_, ?_, by simp, by simp, ⟨by simp, ?_⟩⟩
      · have ht : ((ds.map (AV.int k)).drop 0).take (ds.length * 1) = ds.map (.int k) := by rw [Nat.mul_one, List.drop_zero, List.take_of_length_le (by simp)]
        simp only [if_neg h0, hg, ht]
        rw [if_pos ⟨trivial, by simp, h1, h2⟩, ← List.map_append]
      · have := ints_one (e := e) (k := k) (H := (H.kill b).push (.cells e false ((ds ++ xs).map (.int k)))) (b := H.next) (l := ds ++ xs) (by simp) (by simp) hin
        simpa using this
      · intro c hc hcb
        simp only [List.mem_singleton] at hcb
        rw [AH.push_get, if_neg (by simp; omega), AH.kill_get, if_neg hcb]
end Go.Ev

/- Bytes: the laws' helpers. -/
namespace Go.Ev
open Go Go.Proofs
set_option linter.unusedSimpArgs false
set_option linter.unusedVariables false

/-- s shows the bytes l -/
abbrev Bs (H : AH) (s : AV) (l : List Int) : Prop := Sl Try.prog 22 5 H s (u8L l)
theorem Bs.len {H : AH} {s : AV} {l : List Int} (h : Bs H s l) (h' : AH) : lenA Try.prog 22 s h' = some (.int .i64 l.length) := by
  have := Sl.len h h'
  simpa [u8L] using this
theorem Bs.at_ {H : AH} {s : AV} {l : List Int} (h : Bs H s l) : ∃ b o, (0 < l.length → b < H.next) ∧ (∀ i : Nat, i < l.length → idxA Try.prog 22 s (.int .i64 i) = some (.ptr b (o + i))) ∧
    ∀ h' : AH, h'.get b = H.get b → ∀ i (hi : i < l.length), ldVar Try.prog 5 b (o + i) h' = some (.int .u8 l[i]) := by
  obtain ⟨b, o, h1, h2, h3⟩ := Sl.at_ h
  have hl : (u8L l).length = l.length := by simp [u8L]
  refine ⟨b, o, by rw [hl] at h1; exact h1, fun i hi => h2 i (by rw [hl]; exact hi), fun h' hh i hi => ?_⟩
  rw [h3 h' hh i (by rw [hl]; exact hi)]
  simp [u8L]
theorem Bs.mk' {H : AH} {b : Nat} {ro : Bool} {l : List Int} (hb : H.get b = some (.cells 5 ro (u8L l))) (hn : b < H.next) : Bs H (.slice b 0 l.length) l := by
  have := Sl.whole (P := Try.prog) (t := 22) (e := 5) (by simp) (by simp) (by simp) hb hn
  rw [u8L_len] at this; exact this

/-! toByteS -/
theorem toByteS_loop {s : AV} {l : List Int} {H : AH} (hs : Bs H s l) (hl : l.length ≤ 70368744177664) (call : CallF) (m : Nat) (hm : l.length + 1 ≤ m) (τ : Tm) (h : AH)
    (t0 : τ 0 = s) (t3 : τ 3 = .slice H.next 0 l.length) (t4 : τ 4 = .int .i64 0) (hK : Kp H h) (hN : h.next = H.next + 1) (hg : h.get H.next = some (.cells 5 false (List.replicate l.length (.int .u8 0)))) :
    ∃ e τ' H', evLoop Try.prog call m (lp Try.prog 32 58) τ h = some (e, τ', H') ∧ e = .exit 0 ∧ τ' 3 = .slice H.next 0 l.length ∧ Kp H H' ∧ H'.next = H.next + 1 ∧ H'.get H.next = some (.cells 5 false (u8L l)) := by
  refine loop_rule
    (fun d τ h => ∃ k : Nat, k + d = l.length ∧ τ 0 = s ∧ τ 3 = .slice H.next 0 l.length ∧ τ 4 = .int .i64 k ∧ Kp H h ∧ h.next = H.next + 1 ∧ h.get H.next = some (.cells 5 false (u8L (l.take k) ++ List.replicate d (.int .u8 0))))
    (fun e τ h => e = .exit 0 ∧ τ 3 = .slice H.next 0 l.length ∧ Kp H h ∧ h.next = H.next + 1 ∧ h.get H.next = some (.cells 5 false (u8L l)))
    ?_ (d := l.length) ⟨0, Nat.zero_add _, t0, t3, t4, hK, hN, by simpa [u8L] using hg⟩ (by omega)
  rintro d τ h ⟨k, hk, t0, t3, t4, hK, hN, hg⟩
  obtain ⟨b, o, a1, a2, a3⟩ := hs.at_
  by_cases hd : d = 0
  · subst hd
    have : k = l.length := by omega
    subst this
    rewrite [lp32_58]
    simp [Try.f32, t0, t3, t4, hs.len]
    exact ⟨hK, hN, by simpa using hg⟩
  · have hlt : k < l.length := by omega
    have hbn := a1 (by omega)
    have hbk := hK.get b hbn
    have hd0 : 1 ≤ d := by omega
    have hix : idxA Try.prog 22 (.slice H.next 0 l.length) (.int .i64 k) = some (.ptr H.next k) := by simp [idxA, hlt]
    have hst := st_one (P := Try.prog) (t := 5) (o := k) (v := .int .u8 l[k]) hg (by simp) rfl (by simp [u8L]; omega)
    rewrite [lp32_58]
    simp [Try.f32, t0, t3, t4, hs.len, hlt, a2 k hlt, a3 h hbk k hlt, hix, hst, wrap_i64 (n := (k : Int) + 1) (by omega) (by omega)]
    refine ⟨d - 1, by omega, k + 1, by omega, by simp, hK.set (Nat.le_refl _) _, hN, ?_⟩
    obtain ⟨q, rfl⟩ : ∃ q, d = q + 1 := ⟨d - 1, by omega⟩
    rw [List.set_append_right _ _ (by simp [u8L]; omega)]
    have hmin : min k l.length = k := by omega
    simp [u8L, List.replicate_succ, hmin]
    rw [List.take_add_one]
    simp [hlt]
theorem toByteS_ev {s : AV} {l : List Int} {H : AH} (hs : Bs H s l) (hl : l.length ≤ 70368744177664) (m : Nat) (hm : l.length + 1 ≤ m) :
    ∃ H', ev Try.prog (m + 1) 32 [s] H = some (.slice H.next 0 l.length, H') ∧ Kp H H' ∧ H'.next = H.next + 1 ∧ H'.get H.next = some (.cells 5 false (u8L l)) := by
  rw [ev_eq Try.func32 ok32 m _ H (by simp [Try.f32])]
  have h1 : 0 ≤ (l.length : Int) ∧ (l.length : Int) ≤ 281474976710656 := by omega
  simp [Try.f32, h1, hs.len]
  generalize hL : evLoop _ _ _ _ _ _ = R
  obtain ⟨e, τ', H', rfl, rfl, g3, g4, g5, g6⟩ := loop_at hL (toByteS_loop hs hl _ m hm _ _ (by simp) (by simp) (by simp) ((Kp.refl H).push _) rfl (by simp [zerosA_one_eq]))
  simp [g3]
  exact ⟨g4, g5, g6⟩

/-! eqByteS -/
theorem eqByteS_loop {s1 s2 : AV} {l1 l2 : List Int} {H : AH} (h1 : Bs H s1 l1) (h2 : Bs H s2 l2) (hlen : l1.length = l2.length) (hl : l1.length ≤ 70368744177664) (call : CallF) (m : Nat) (hm : l1.length + 1 ≤ m) (τ : Tm)
    (t0 : τ 0 = s1) (t1 : τ 1 = s2) (t5 : τ 5 = .int .i64 0) :
    ∃ e τ' H', evLoop Try.prog call m (lp Try.prog 35 58) τ H = some (e, τ', H') ∧ H' = H ∧ ((e = .exit 0 ∧ l1 = l2) ∨ (e = .ret ∧ τ' 4 = .bool false ∧ l1 ≠ l2)) := by
  refine loop_rule
    (fun d τ h => h = H ∧ ∃ k : Nat, k + d = l1.length ∧ τ 0 = s1 ∧ τ 1 = s2 ∧ τ 5 = .int .i64 k ∧ l1.take k = l2.take k)
    (fun e τ h => h = H ∧ ((e = .exit 0 ∧ l1 = l2) ∨ (e = .ret ∧ τ 4 = .bool false ∧ l1 ≠ l2)))
    ?_ (d := l1.length) ⟨rfl, 0, Nat.zero_add _, t0, t1, t5, by simp⟩ (by omega)
  rintro d τ h ⟨rfl, k, hk, t0, t1, t5, hg⟩
  obtain ⟨b, o, a1, a2, a3⟩ := h1.at_
  obtain ⟨b', o', c1, c2, c3⟩ := h2.at_
  by_cases hd : d = 0
  · subst hd
    have : k = l1.length := by omega
    subst this
    rewrite [lp35_58]
    simp [Try.f35, t0, t1, t5, h1.len, h2.len]
    rw [List.take_length, hlen, List.take_length] at hg; exact hg
  · have hlt : k < l1.length := by omega
    have hlt2 : k < l2.length := by omega
    by_cases he : l1[k] = l2[k]
    · rewrite [lp35_58]
      simp [Try.f35, t0, t1, t5, h1.len, h2.len, hlt, a2 k hlt, a3 h rfl k hlt, c2 k hlt2, c3 h rfl k hlt2, he, wrap_i64 (n := (k : Int) + 1) (by omega) (by omega)]
      refine ⟨d - 1, by omega, k + 1, by omega, by simp, ?_⟩
      rw [List.take_add_one, List.take_add_one, hg]; simp [hlt, hlt2, he]
    · rewrite [lp35_58]
      simp [Try.f35, t0, t1, t5, h1.len, h2.len, hlt, a2 k hlt, a3 h rfl k hlt, c2 k hlt2, c3 h rfl k hlt2, he]
      intro h; apply he; subst h; rfl
theorem eqByteS_ev {s1 s2 : AV} {l1 l2 : List Int} {H : AH} (h1 : Bs H s1 l1) (h2 : Bs H s2 l2) (hl : l1.length ≤ 70368744177664) (m : Nat) (hm : l1.length + 2 ≤ m) :
    ev Try.prog m 35 [s1, s2] H = some (.bool (decide (l1 = l2)), H) := by
  obtain ⟨m, rfl⟩ : ∃ k, m = k + 1 := ⟨m - 1, by omega⟩
  rw [ev_eq Try.func35 ok35 m _ H (by simp [Try.f35])]
  by_cases hlen : l1.length = l2.length
  · simp [Try.f35, h1.len, h2.len, hlen]
    generalize hL : evLoop _ _ _ _ _ _ = R
    obtain ⟨e, τ', H', rfl, rfl, ⟨rfl, g⟩ | ⟨rfl, g, g2⟩⟩ := loop_at hL (eqByteS_loop h1 h2 hlen hl _ m (by omega) _ (by simp) (by simp) (by simp))
    · simp [g]
    · simp [g, g2]
  · have hne : l1 ≠ l2 := fun h => hlen (by rw [h])
    have hlen' : ¬ ((l1.length : Int) = l2.length) := by omega
    simp [Try.f35, h1.len, h2.len, hlen', hne]

/-! markByteS, heldByteS -/
/-- what mark writes -/
def marks (k : Int) (n : Nat) : List Int := (List.range n).map fun (i : Nat) => (k + (i : Int)) % 256
theorem marks_len (k : Int) (n : Nat) : (marks k n).length = n := by simp [marks]
theorem marks_get (k : Int) (n i : Nat) (h : i < n) : (marks k n)[i]'(by simp [marks_len, h]) = (k + i) % 256 := by simp [marks]
theorem marks_succ (k : Int) (n : Nat) : marks k (n + 1) = marks k n ++ [(k + n) % 256] := by simp [marks, List.range_succ]
/-- s is a block of its own, in the span lo .. hi -/
def Ow (lo hi : Nat) (H : AH) (s : AV) (l : List Int) : Prop :=
  (s = .nilSlice ∧ l = []) ∨ ∃ b, lo ≤ b ∧ b < hi ∧ hi ≤ H.next ∧ s = .slice b 0 l.length ∧ H.get b = some (.cells 5 false (u8L l))
theorem Ow.bs {lo hi : Nat} {H : AH} {s : AV} {l : List Int} (h : Ow lo hi H s l) : Bs H s l := by
  rcases h with ⟨rfl, rfl⟩ | ⟨b, h1, h2, h3, rfl, h4⟩
  · exact ⟨by simp, by simp, by simp, .inl ⟨rfl, rfl⟩⟩
  · exact Bs.mk' h4 (by omega)
/-- nothing but the blocks of the span has turned -/
structure Ko (lo hi : Nat) (H H' : AH) : Prop where
  next : H.next ≤ H'.next
  get : ∀ b, b < H.next → (b < lo ∨ hi ≤ b) → H'.get b = H.get b
theorem wrap_u8 (n : Int) : IntKind.u8.wrap n = n % 256 := by rw [IntKind.wrap_u8]
theorem Ow.mark_loop {lo hi b : Nat} {l : List Int} {H : AH} (hb : H.get b = some (.cells 5 false (u8L l))) (hn : b < H.next) (hlo : lo ≤ b) (hhi : b < hi) (hl : l.length ≤ 70368744177664) (k0 : Int) (hk0 : 0 ≤ k0) (hk1 : k0 ≤ 70368744177664)
    (call : CallF) (m : Nat) (hm : l.length + 1 ≤ m) (τ : Tm) (t0 : τ 0 = .slice b 0 l.length) (t1 : τ 1 = .int .i64 k0) (t3 : τ 5 = .int .i64 0) :
    ∃ e τ' H', evLoop Try.prog call m (lp Try.prog 38 26) τ H = some (e, τ', H') ∧ e = .exit 0 ∧ τ' 1 = .int .i64 (k0 + l.length) ∧ Ko lo hi H H' ∧ H'.next = H.next ∧ H'.get b = some (.cells 5 false (u8L (marks k0 l.length))) := by
  refine loop_rule
    (fun d τ h => ∃ k : Nat, k + d = l.length ∧ τ 0 = .slice b 0 l.length ∧ τ 1 = .int .i64 (k0 + k) ∧ τ 5 = .int .i64 k ∧ Ko lo hi H h ∧ h.next = H.next ∧ h.get b = some (.cells 5 false (u8L (marks k0 k ++ l.drop k))))
    (fun e τ h => e = .exit 0 ∧ τ 1 = .int .i64 (k0 + l.length) ∧ Ko lo hi H h ∧ h.next = H.next ∧ h.get b = some (.cells 5 false (u8L (marks k0 l.length))))
    ?_ (d := l.length) ⟨0, Nat.zero_add _, t0, by simp [t1], t3, ⟨Nat.le_refl _, fun _ _ _ => rfl⟩, rfl, by simpa [marks] using hb⟩ (by omega)
  rintro d τ h ⟨k, hk, t0, t1, t3, hK, hN, hg⟩
  by_cases hd : d = 0
  · subst hd
    have : k = l.length := by omega
    subst this
    rewrite [lp38_26]
    simp [Try.f38, t0, t1, t3]
    exact ⟨hK, hN, by simpa using hg⟩
  · have hlt : k < l.length := by omega
    have hd0 : 1 ≤ d := by omega
    have hix : idxA Try.prog 22 (.slice b 0 l.length) (.int .i64 k) = some (.ptr b k) := by simp [idxA, hlt]
    have hst := st_one (P := Try.prog) (t := 5) (o := k) (v := .int .u8 ((k0 + k) % 256)) hg (by simp) rfl (by simp [u8L, marks_len]; omega)
    rewrite [lp38_26]
    simp [Try.f38, t0, t1, t3, hlt, hix, hst, convA, wrap_u8, wrap_i64 (n := (k : Int) + 1) (by omega) (by omega), wrap_i64 (n := k0 + (k : Int) + 1) (by omega) (by omega)]
    refine ⟨d - 1, by omega, k + 1, by omega, by simp; omega, by simp, ⟨hK.next, fun c hc hcc => ?_⟩, hN, ?_⟩
    · rw [AH.set_get, if_neg (by omega)]; exact hK.get c hc hcc
    · obtain ⟨q, rfl⟩ : ∃ q, d = q + 1 := ⟨d - 1, by omega⟩
      rw [marks_succ]
      have hml : (marks k0 k).length = k := marks_len _ _
      simp [u8L, List.set_append_right, hml]
      rw [List.drop_eq_getElem_cons (by simpa using hlt)]
      simp
theorem markByteS_ev {lo hi : Nat} {s : AV} {l : List Int} {H : AH} (h : Ow lo hi H s l) (hl : l.length ≤ 70368744177664) (k0 : Int) (hk0 : 0 ≤ k0) (hk1 : k0 ≤ 70368744177664) (m : Nat) (hm : l.length + 2 ≤ m) :
    ∃ H', ev Try.prog m 38 [s, .int .i64 k0] H = some (.int .i64 (k0 + l.length), H') ∧ Ko lo hi H H' ∧ H'.next = H.next ∧ Ow lo hi H' s (marks k0 l.length) := by
  obtain ⟨m, rfl⟩ : ∃ k, m = k + 1 := ⟨m - 1, by omega⟩
  rcases h with ⟨rfl, rfl⟩ | ⟨b, h1, h2, h3, rfl, h4⟩
  · refine ⟨H, ?_, ⟨Nat.le_refl _, fun _ _ _ => rfl⟩, rfl, .inl ⟨rfl, rfl⟩⟩
    rw [ev_eq Try.func38 ok38 m _ H (by simp [Try.f38])]
    simp [Try.f38]
    generalize hL : evLoop _ _ _ _ _ _ = R
    obtain ⟨e, τ', H', rfl, rfl, rfl, g⟩ := loop_at hL (loop_rule (d := 0) (fun d τ h => h = H ∧ τ 0 = .nilSlice ∧ τ 1 = .int .i64 k0 ∧ τ 5 = .int .i64 0) (fun e τ h => e = .exit 0 ∧ h = H ∧ τ 1 = .int .i64 k0)
      (by
        rintro d τ h ⟨rfl, t0, t1, t5⟩
        rewrite [lp38_26]
        simp [Try.f38, t0, t1, t5]) ⟨rfl, by simp, by simp, by simp⟩ (by simp at hm; omega))
    simp [g]
  · rw [ev_eq Try.func38 ok38 m _ H (by simp [Try.f38])]
    simp [Try.f38]
    generalize hL : evLoop _ _ _ _ _ _ = R
    obtain ⟨e, τ', H', rfl, rfl, g1, g2, g3, g4⟩ := loop_at hL (Ow.mark_loop h4 (by omega) h1 h2 hl k0 hk0 hk1 _ m (by omega) _ (by simp) (by simp) (by simp))
    simp [g1]
    exact ⟨g2, g3, .inr ⟨b, h1, h2, by omega, by simp [marks_len], g4⟩⟩
theorem heldByteS_ev {s : AV} {H : AH} (k0 : Int) (n : Nat) (h : Bs H s (marks k0 n)) (hl : n ≤ 70368744177664) (hk0 : 0 ≤ k0) (hk1 : k0 ≤ 70368744177664) (m : Nat) (hm : n + 2 ≤ m) :
    ev Try.prog m 41 [s, .int .i64 k0] H = some (.int .i64 (k0 + n), H) := by
  obtain ⟨m, rfl⟩ : ∃ k, m = k + 1 := ⟨m - 1, by omega⟩
  rw [ev_eq Try.func41 ok41 m _ H (by simp [Try.f41])]
  simp [Try.f41]
  generalize hL : evLoop _ _ _ _ _ _ = R
  obtain ⟨e, τ', H', rfl, rfl, rfl, g⟩ := loop_at hL (loop_rule (d := n) (fun d τ h => h = H ∧ ∃ k : Nat, k + d = n ∧ τ 0 = s ∧ τ 1 = .int .i64 (k0 + k) ∧ τ 5 = .int .i64 k) (fun e τ h => e = .exit 0 ∧ h = H ∧ τ 1 = .int .i64 (k0 + n))
    (by
      rintro d τ h' ⟨rfl, k, hk, t0, t1, t5⟩
      obtain ⟨b, o, a1, a2, a3⟩ := h.at_
      simp only [marks_len] at a1 a2 a3
      by_cases hd : d = 0
      · subst hd
        have : k = n := by omega
        subst this
        rewrite [lp41_26]
        simp [Try.f41, t0, t1, t5, h.len, marks_len]
      · have hlt : k < n := by omega
        have hd0 : 1 ≤ d := by omega
        rewrite [lp41_26]
        simp [Try.f41, t0, t1, t5, h.len, marks_len, hlt, a2 k hlt, a3 h' rfl k hlt, marks_get, convA, wrap_u8, wrap_i64 (n := (k : Int) + 1) (by omega) (by omega), wrap_i64 (n := k0 + (k : Int) + 1) (by omega) (by omega)]
        exact ⟨d - 1, by omega, k + 1, by omega, by simp; omega, by simp⟩) ⟨rfl, 0, by simp, by simp, by simp, by simp⟩ (by omega))
  simp [g]

theorem Bs.kp {H H' : AH} {s : AV} {l : List Int} (h : Bs H s l) (hK : Kp H H') : Bs H' s l := Sl.kp h hK
theorem Bs.nil (H : AH) : Bs H .nilSlice [] := ⟨by simp, by simp, by simp, .inl ⟨rfl, rfl⟩⟩
theorem Ow.kp {lo hi : Nat} {H H' : AH} {s : AV} {l : List Int} (h : Ow lo hi H s l) (hK : Kp H H') : Ow lo hi H' s l := by
  rcases h with h | ⟨b, h1, h2, h3, h4, h5⟩
  · exact .inl h
  · exact .inr ⟨b, h1, h2, Nat.le_trans h3 hK.next, h4, by rw [hK.get b (by omega)]; exact h5⟩
theorem Ow.ko {lo hi lo' hi' : Nat} {H H' : AH} {s : AV} {l : List Int} (h : Ow lo hi H s l) (hK : Ko lo' hi' H H') (hd : hi ≤ lo' ∨ hi' ≤ lo) : Ow lo hi H' s l := by
  rcases h with h | ⟨b, h1, h2, h3, h4, h5⟩
  · exact .inl h
  · exact .inr ⟨b, h1, h2, Nat.le_trans h3 hK.next, h4, by rw [hK.get b (by omega) (by omega)]; exact h5⟩
theorem Ow.wide {lo hi lo' hi' : Nat} {H : AH} {s : AV} {l : List Int} (h : Ow lo hi H s l) (h1 : lo' ≤ lo) (h2 : hi ≤ hi') (h3 : hi' ≤ H.next) : Ow lo' hi' H s l := by
  rcases h with h | ⟨b, g1, g2, g3, g4, g5⟩
  · exact .inl h
  · exact .inr ⟨b, by omega, by omega, h3, g4, g5⟩
theorem Ko.kp {lo hi : Nat} {A H H' : AH} (h : Kp A H) (k : Ko lo hi H H') (hlo : A.next ≤ lo) : Kp A H' :=
  ⟨Nat.le_trans h.next k.next, fun b hb => by rw [k.get b (by have := h.next; omega) (by omega)]; exact h.get b hb⟩

theorem appBytes {H : AH} {s : AV} {l : List Int} (hs : Bs H s l) (hl : l.length ≤ 70368744177664) {h : AH} (hK : Kp H h) :
    ∃ r H', appA Try.prog 22 22 (.slice h.next 0 0) s (h.push (.cells 5 false [])) = some (r, H') ∧ Kp h H' ∧ Ow h.next H'.next H' r l := by
  have hs' : Bs (h.push (.cells 5 false [])) s l := hs.kp (hK.push _)
  have hn := hs'.news
  rw [u8L_len] at hn
  unfold appA
  simp only [tyE22, tyS5, tyB5, tyZ5, hn]
  by_cases h0 : l.length = 0
  · have : l = [] := List.eq_nil_of_length_eq_zero h0
    subst this
    refine ⟨_, _, rfl, (Kp.refl h).push _, .inr ⟨h.next, Nat.le_refl _, by simp, Nat.le_refl _, rfl, by simp [u8L]⟩⟩
  · simp [h0, hl]
    refine ⟨_, _, ⟨rfl, rfl⟩, ?_, .inr ⟨h.next + 1, by omega, by simp, by simp, rfl, by simp⟩⟩
    exact (((Kp.refl h).push _).kill (Nat.le_refl _)).push _
theorem copied_ev {Hb H : AH} {s : AV} {l : List Int} (hs : Bs Hb s l) (hK : Kp Hb H) (hl : l.length ≤ 70368744177664) (m : Nat) (hm : 1 ≤ m) :
    ∃ r H', ev Try.prog m 64 [s] H = some (r, H') ∧ Kp H H' ∧ Ow H.next H'.next H' r l := by
  obtain ⟨m, rfl⟩ : ∃ k, m = k + 1 := ⟨m - 1, by omega⟩
  obtain ⟨r, H', h1, h2, h3⟩ := appBytes hs hl hK
  refine ⟨r, H', ?_, h2, h3⟩
  rw [ev_eq Try.func64 ok64 m _ H (by simp [Try.f64])]
  simp [Try.f64, h1]
theorem l03Copy_ev {Hb H : AH} {s : AV} {l : List Int} (hs : Bs Hb s l) (hK : Kp Hb H) (hl : l.length ≤ 70368744177664) (m : Nat) (hm : 1 ≤ m) :
    ∃ r H', ev Try.prog m 66 [s] H = some (r, H') ∧ Kp H H' ∧ Ow H.next H'.next H' r l := by
  obtain ⟨m, rfl⟩ : ∃ k, m = k + 1 := ⟨m - 1, by omega⟩
  obtain ⟨r, H', h1, h2, h3⟩ := appBytes hs hl hK
  refine ⟨r, H', ?_, h2, h3⟩
  rw [ev_eq Try.func66 ok66 m _ H (by simp [Try.f66])]
  simp [Try.f66, h1]
theorem tooLong_ev {H : AH} {s : AV} {l : List Int} (hs : Bs H s l) (h : AH) (m : Nat) (hm : 1 ≤ m) :
    ev Try.prog m 57 [s] h = some (.bool (decide (65536 < (l.length : Int))), h) := by
  obtain ⟨m, rfl⟩ : ∃ k, m = k + 1 := ⟨m - 1, by omega⟩
  rw [ev_eq Try.func57 ok57 m _ h (by simp [Try.f57])]
  simp [Try.f57, hs.len]


/-- the number of some bytes, the highest first -/
def valP (l : List Int) : Int := l.foldl (fun v x => v * 256 + x) 0
def By (l : List Int) : Prop := ∀ x ∈ l, 0 ≤ x ∧ x < 256
theorem valP_snoc (l : List Int) (x : Int) : valP (l ++ [x]) = valP l * 256 + x := by simp [valP]
theorem valF_lt : ∀ (l : List Int) (v : Int), By l → 0 ≤ v → 0 ≤ l.foldl (fun v x => v * 256 + x) v ∧ l.foldl (fun v x => v * 256 + x) v < (v + 1) * 256 ^ l.length
  | [], v, _, hv => by simp; omega
  | x :: l, v, h, hv => by
    have h2 := h x (by simp)
    have h1 := valF_lt l (v * 256 + x) (fun y hy => h y (by simp [hy])) (by omega)
    refine ⟨h1.1, Int.lt_of_lt_of_le h1.2 ?_⟩
    rw [List.length_cons, Int.pow_succ]
    have h3 : (0 : Int) ≤ 256 ^ l.length := Int.pow_nonneg (by decide)
    have h4 : (v * 256 + x + 1) * 256 ^ l.length ≤ ((v + 1) * 256) * 256 ^ l.length := Int.mul_le_mul_of_nonneg_right (by omega) h3
    have h5 : (v + 1) * (256 ^ l.length * 256) = ((v + 1) * 256) * 256 ^ l.length := by rw [Int.mul_comm (256 ^ l.length) 256, Int.mul_assoc]
    rw [h5]; exact h4
theorem valP_lt (l : List Int) (h : By l) : 0 ≤ valP l ∧ valP l < 256 ^ l.length := by
  have := valF_lt l 0 h (by omega)
  unfold valP
  simpa using this
theorem By.take {l : List Int} (h : By l) (k : Nat) : By (l.take k) := fun x hx => h x (List.mem_of_mem_take hx)
theorem By.drop {l : List Int} (h : By l) (k : Nat) : By (l.drop k) := fun x hx => h x (List.mem_of_mem_drop hx)
theorem By.at_ {l : List Int} (h : By l) (k : Nat) (hk : k < l.length) : 0 ≤ l[k] ∧ l[k] < 256 := h _ (List.getElem_mem hk)
theorem valP_take_lt {l : List Int} (h : By l) (k n : Nat) (hk : k ≤ n) : 0 ≤ valP (l.take k) ∧ valP (l.take k) < 256 ^ n := by
  have h1 := valP_lt _ (h.take k)
  refine ⟨h1.1, Int.lt_of_lt_of_le h1.2 ?_⟩
  have : (256 : Nat) ^ (l.take k).length ≤ 256 ^ n := Nat.pow_le_pow_right (by omega) (by simp; omega)
  have h3 := Int.ofNat_le.mpr this
  rw [Int.natCast_pow, Int.natCast_pow] at h3
  exact h3
theorem valP_take_succ {l : List Int} (k : Nat) (hk : k < l.length) : valP (l.take (k + 1)) = valP (l.take k) * 256 + l[k] := by
  rw [List.take_add_one, List.getElem?_eq_getElem hk]; exact valP_snoc _ _


abbrev tB : Ty := .sl 5 (.int .u8)
theorem u8_mm : IntKind.min .u8 = 0 ∧ IntKind.max .u8 = 255 := by decide
theorem By.iff (l : List Int) : By l ↔ ∀ d ∈ l, IntKind.min .u8 ≤ d ∧ d ≤ IntKind.max .u8 := by
  rw [u8_mm.1, u8_mm.2]
  constructor
  · intro h d hd; have := h d hd; omega
  · intro h d hd; have := h d hd; omega
theorem tB_bs {H : AH} {s : AV} {l : List Int} {rw : Bool} {bs : List Nat} (h : tB.R rw H [s] l bs) : Bs H s l ∧ By l := by
  rcases h with ⟨h1, h2, h3⟩ | ⟨b, o, ro, xs, b', h1, h2, h3, h4, h5, h6, h7⟩
  · simp only [List.cons.injEq, and_true] at h1; subst h1 h2
    exact ⟨Bs.nil _, by simp [By]⟩
  · simp only [List.cons.injEq, and_true] at h1; subst h1
    simp only [Ty.n, Nat.mul_one] at h6 h7
    obtain ⟨g1, g2, g3⟩ := rows_int.1 h7
    refine ⟨⟨by simp, by simp, by simp, .inr ⟨b, o, ro, xs, by simp [u8L], h3, h4, by simpa [u8L] using h6, by simpa [u8L] using g1⟩⟩, (By.iff l).2 g3⟩
theorem bs_tB {H : AH} {s : AV} {l : List Int} (h : Bs H s l) (hb : By l) : ∃ bs, tB.R false H [s] l bs := by
  rcases h.lie with ⟨rfl, h2⟩ | ⟨b, o, ro, xs, rfl, hn, hb', hl, hx⟩
  · have : l = [] := by simpa [u8L] using h2
    subst this
    exact ⟨[], .inl ⟨rfl, rfl, rfl⟩⟩
  · simp only [u8L_len] at *
    refine ⟨[b], .inr ⟨b, o, ro, xs, [], rfl, rfl, hn, hb', by simp, by simpa [Ty.n] using hl, ?_⟩⟩
    simp only [Ty.n, Nat.mul_one]
    exact rows_int.2 ⟨hx, rfl, (By.iff l).1 hb⟩
theorem tB_one {H : AH} {s : AV} {l : List Int} {bs : List Nat} (h : tB.R true H [s] l bs) : (s = .nilSlice ∧ l = [] ∧ bs = []) ∨ ∃ b, bs = [b] ∧ s = .slice b 0 l.length ∧ b < H.next ∧ H.get b = some (.cells 5 false (u8L l)) := by
  rcases h with ⟨h1, h2, h3⟩ | ⟨b, o, ro, xs, b', h1, h2, h3, h4, h5, h6, h7⟩
  · simp only [List.cons.injEq, and_true] at h1; subst h1 h2 h3
    exact .inl ⟨rfl, rfl, rfl⟩
  · simp only [List.cons.injEq, and_true] at h1; subst h1
    obtain ⟨rfl, rfl, hw⟩ := h5 rfl
    simp only [Ty.n, Nat.mul_one] at h6 h7 hw
    obtain ⟨g1, g2, g3⟩ := rows_int.1 h7
    rw [List.drop_zero, ← hw, List.take_length] at g1
    subst g1 g2
    exact .inr ⟨b, by rw [h2], rfl, h3, h4⟩
theorem one_tB {H : AH} {l : List Int} {b : Nat} (hn : b < H.next) (hg : H.get b = some (.cells 5 false (u8L l))) (hb : By l) : tB.R true H [.slice b 0 l.length] l [b] := by
  refine .inr ⟨b, 0, false, u8L l, [], rfl, rfl, hn, hg, fun _ => ⟨rfl, rfl, by simp [u8L, Ty.n]⟩, by simp [u8L, Ty.n], ?_⟩
  simp only [Ty.n, Nat.mul_one, List.drop_zero]
  have : (u8L l).take l.length = u8L l := by rw [← u8L_len, List.take_length]
  rw [this]
  exact rows_int.2 ⟨rfl, rfl, (By.iff l).1 hb⟩
theorem ow_tB {lo hi : Nat} {H : AH} {s : AV} {l : List Int} (h : Ow lo hi H s l) (hb : By l) : ∃ bs, tB.R true H [s] l bs ∧ bs.Nodup ∧ ∀ b ∈ bs, lo ≤ b ∧ b < hi := by
  rcases h with ⟨rfl, rfl⟩ | ⟨b, h1, h2, h3, rfl, h4⟩
  · exact ⟨[], .inl ⟨rfl, rfl, rfl⟩, by simp, by simp⟩
  · exact ⟨[b], one_tB (by omega) h4 hb, by simp, by simp; omega⟩
theorem marks_by (k : Int) (n : Nat) : By (marks k n) := by
  intro x hx
  simp only [marks, List.mem_map] at hx
  obtain ⟨i, _, rfl⟩ := hx
  omega
theorem mk_tB : ∀ (l : List Int) (k : Int), tB.mk false k l = marks k l.length
  | [], k => rfl
  | d :: l, k => by
    have h := mk_tB l (k + 1)
    have e : tB.mk false k (d :: l) = (k % 256) :: tB.mk false (k + 1) l := by
      show mkRow _ _ _ _ = _
      simp only [mkRow, Ty.mk, Ty.cnt]
      simp [IntKind.wrap_u8]
    rw [e, h, List.length_cons, marks, marks, List.range_succ_eq_map]
    simp
    intro a _; congr 1; omega
theorem cnt_tB (l : List Int) : tB.cnt false l = l.length := cnt_int _ l
/-- markByteS -/
theorem markB {H : AH} {s : AV} {l : List Int} {bs : List Nat} (h : tB.R true H [s] l bs) (hl : l.length ≤ 70368744177664) (k : Int) (hk0 : 0 ≤ k) (hk1 : k ≤ 70368744177664) (m : Nat) (hm : l.length + 2 ≤ m) :
    ∃ H', ev Try.prog m 38 [s, .int .i64 k] H = some (.int .i64 (k + (tB.cnt false l : Nat)), H') ∧ KoL bs H H' ∧ tB.R true H' [s] (tB.mk false k l) bs := by
  rw [mk_tB, cnt_tB]
  rcases tB_one h with ⟨rfl, rfl, rfl⟩ | ⟨b, rfl, rfl, hn, hg⟩
  · obtain ⟨H', g1, g2, g3, g4⟩ := markByteS_ev (lo := H.next) (hi := H.next) (H := H) (s := .nilSlice) (l := []) (.inl ⟨rfl, rfl⟩) (by simp) k hk0 hk1 m hm
    exact ⟨H', g1, ⟨g3, fun b hb _ => g2.get b hb (by omega)⟩, .inl ⟨rfl, rfl, rfl⟩⟩
  · obtain ⟨H', g1, g2, g3, g4⟩ := markByteS_ev (lo := b) (hi := b + 1) (.inr ⟨b, Nat.le_refl _, by omega, by omega, rfl, hg⟩) hl k hk0 hk1 m hm
    refine ⟨H', g1, ⟨g3, fun c hc hcb => g2.get c hc (by simp at hcb; omega)⟩, ?_⟩
    rcases g4 with ⟨e1, e2⟩ | ⟨b', q1, q2, q3, q4, q5⟩
    · simp at e1
    · have : b' = b := by omega
      subst this
      have := one_tB (by omega) q5 (marks_by _ _)
      rw [marks_len] at this
      exact this
/-- heldByteS -/
theorem heldB {H : AH} {s : AV} {l : List Int} {bs : List Nat} {rw : Bool} {k : Int} (h : tB.R rw H [s] (tB.mk false k l) bs) (hl : l.length ≤ 70368744177664) (hk0 : 0 ≤ k) (hk1 : k ≤ 70368744177664) (m : Nat) (hm : l.length + 2 ≤ m) :
    ev Try.prog m 41 [s, .int .i64 k] H = some (.int .i64 (k + (tB.cnt false l : Nat)), H) := by
  rw [mk_tB] at h
  rw [cnt_tB]
  exact heldByteS_ev k l.length (tB_bs h).1 hl hk0 hk1 m hm
theorem eqB {H : AH} {s1 s2 : AV} {l1 l2 : List Int} {b1 b2 : List Nat} {r1 r2 : Bool} (h1 : tB.R r1 H [s1] l1 b1) (h2 : tB.R r2 H [s2] l2 b2) (hl : l1.length ≤ 70368744177664) (m : Nat) (hm : l1.length + 2 ≤ m) :
    ev Try.prog m 35 [s1, s2] H = some (.bool (decide (l1 = l2)), H) := eqByteS_ev (tB_bs h1).1 (tB_bs h2).1 hl m hm
theorem toByteS_evm {s : AV} {l : List Int} {Hb H : AH} (hs : Bs Hb s l) (hK : Kp Hb H) (hl : l.length ≤ 1048576) (m : Nat) (hm : l.length + 2 ≤ m) :
    ∃ r H', ev Try.prog m 32 [s] H = some (r, H') ∧ Kp H H' ∧ Ow H.next H'.next H' r l := by
  obtain ⟨m, rfl⟩ : ∃ k, m = k + 1 := ⟨m - 1, by omega⟩
  obtain ⟨H', h1, h2, h3, h4⟩ := toByteS_ev (hs.kp hK) (by omega) m (by omega)
  exact ⟨_, H', h1, h2, .inr ⟨H.next, Nat.le_refl _, by omega, Nat.le_refl _, rfl, h4⟩⟩
/-- toByteS, by kinds -/
theorem toB {s : AV} {l : List Int} {Hb H : AH} (hs : Bs Hb s l) (hb : By l) (hK : Kp Hb H) (hl : l.length ≤ 1048576) (m : Nat) (hm : l.length + 2 ≤ m) :
    ∃ r H' bs, ev Try.prog m 32 [s] H = some (r, H') ∧ Kp H H' ∧ tB.R true H' [r] l bs ∧ bs.Nodup ∧ ∀ b ∈ bs, H.next ≤ b := by
  obtain ⟨r, H', h1, h2, h3⟩ := toByteS_evm hs hK hl m hm
  obtain ⟨bs, g1, g2, g3⟩ := ow_tB h3 hb
  exact ⟨r, H', bs, h1, h2, g1, g2, fun b hb => (g3 b hb).1⟩
theorem cntL_take_succ {α : Type} (c : α → Nat) (l : List α) (k : Nat) (hk : k < l.length) : cntL c (l.take (k + 1)) = cntL c (l.take k) + c l[k] := by
  rw [List.take_add_one, List.getElem?_eq_getElem hk, cntL_app]; simp [cntL]
theorem cntL_take_le {α : Type} (c : α → Nat) (l : List α) (k : Nat) : cntL c (l.take k) ≤ cntL c l := by
  conv => rhs; rw [← List.take_append_drop k l]
  rw [cntL_app]; omega
theorem mkRow_set {α : Type} (f : Int → α → α) (c : α → Nat) (k0 : Int) (l : List α) (k : Nat) (hk : k < l.length) :
    (mkRow f c k0 (l.take k) ++ l.drop k).set k (f (k0 + (cntL c (l.take k) : Nat)) l[k]) = mkRow f c k0 (l.take (k + 1)) ++ l.drop (k + 1) := by
  have hl : (mkRow f c k0 (l.take k)).length = k := by rw [mkRow_len]; simp; omega
  rw [List.set_append_right _ _ (by omega), hl, Nat.sub_self, List.drop_eq_getElem_cons hk, List.set_cons_zero, List.take_add_one, List.getElem?_eq_getElem hk, mkRow_app]
  simp [mkRow]
theorem mkRow_at {α : Type} (f : Int → α → α) (c : α → Nat) (k0 : Int) (l : List α) (k : Nat) (hk : k < l.length) (hk' : k < (mkRow f c k0 (l.take k) ++ l.drop k).length) : (mkRow f c k0 (l.take k) ++ l.drop k)[k] = l[k] := by
  have hl : (mkRow f c k0 (l.take k)).length = k := by rw [mkRow_len]; simp; omega
  rw [List.getElem_append_right (by omega)]
  simp [hl]
theorem mkRow_get {α : Type} (f : Int → α → α) (c : α → Nat) : ∀ (l : List α) (k0 : Int) (k : Nat) (hk : k < l.length) (hk' : k < (mkRow f c k0 l).length), (mkRow f c k0 l)[k] = f (k0 + (cntL c (l.take k) : Nat)) l[k]
  | d :: l, k0, 0, hk, hk' => by simp [mkRow, cntL]
  | d :: l, k0, k + 1, hk, hk' => by
    simp only [mkRow, List.getElem_cons_succ]
    rw [mkRow_get f c l (k0 + c d) k (by simpa using hk)]
    simp only [List.take_succ_cons, cntL]
    congr 1; push_cast; omega

end Go.Ev

/- Bits: some laws of whole numbers. -/
namespace Go.Ev
open Go Go.RowKit
theorem or_byte {u x : Int} (hu : 0 ≤ u) (hu2 : u < 72057594037927936) (hx : 0 ≤ x) (hx2 : x < 256) : bits .or .u64 (u * 256) x = u * 256 + x := by
  obtain ⟨a, rfl⟩ := Int.eq_ofNat_of_zero_le hu
  obtain ⟨b, rfl⟩ := Int.eq_ofNat_of_zero_le hx
  have h := bits_or_u64_nat (2 ^ 8 * a) b (by omega) (by omega)
  rw [← Nat.two_pow_add_eq_or_of_lt (by omega : b < 2 ^ 8)] at h
  have e1 : ((2 ^ 8 * a : Nat) : Int) = (a : Int) * 256 := by omega
  rw [e1] at h
  rw [h]; omega
theorem and_mask {v : Int} (k : Nat) (hk : k ≤ 62) : bits .and .i64 v (2 ^ k - 1) = v % 2 ^ k := by
  have hm : ((2 : Int) ^ k - 1) = ((2 ^ k - 1 : Nat) : Int) := by
    have : 1 ≤ 2 ^ k := Nat.one_le_two_pow
    rw [Int.ofNat_sub this]; simp
  show IntKind.i64.wrap ((BitVec.ofInt 64 v &&& BitVec.ofInt 64 (2 ^ k - 1)).toNat : Int) = _
  have h2 : (BitVec.ofInt 64 (2 ^ k - 1)).toNat = 2 ^ k - 1 := by
    rw [hm, BitVec.ofInt_natCast, BitVec.toNat_ofNat]
    refine Nat.mod_eq_of_lt ?_
    have : 2 ^ k ≤ 2 ^ 62 := Nat.pow_le_pow_right (by omega) hk
    omega
  rw [BitVec.toNat_and, h2, Nat.and_two_pow_sub_one_eq_mod]
  have h3 : ((BitVec.ofInt 64 v).toNat : Int) = v % 18446744073709551616 := by
    rw [BitVec.toNat_ofInt]
    have := Int.emod_nonneg v (by decide : (18446744073709551616 : Int) ≠ 0)
    simp
    omega
  have hp : (2 : Int) ^ k ≤ 2 ^ 62 := by
    have : 2 ^ k ≤ 2 ^ 62 := Nat.pow_le_pow_right (by omega) hk
    exact_mod_cast this
  have hp0 : (0 : Int) < 2 ^ k := by
    have : 0 < 2 ^ k := Nat.two_pow_pos k
    exact_mod_cast this
  have h4 : ((((BitVec.ofInt 64 v).toNat % 2 ^ k : Nat)) : Int) = v % 2 ^ k := by
    rw [Int.natCast_emod, h3]
    have hd : (2 : Int) ^ k ∣ 18446744073709551616 := by
      have : (18446744073709551616 : Int) = 2 ^ k * 2 ^ (64 - k) := by
        rw [← Int.pow_add, show k + (64 - k) = 64 by omega]; rfl
      exact ⟨_, this⟩
    have hc : ((2 ^ k : Nat) : Int) = (2 : Int) ^ k := by norm_cast
    rw [hc]
    exact Int.emod_emod_of_dvd _ hd
  rw [h4, IntKind.wrap_i64]
  have h5 := Int.emod_nonneg v (Int.ne_of_gt hp0)
  have h6 := Int.emod_lt_of_pos v hp0
  have h7 : (2 : Int) ^ 62 = 4611686018427387904 := by decide
  omega
theorem and_m6 (v : Int) : bits .and .i64 (IntKind.i64.wrap v) 63 = v % 64 := by
  rw [show (63 : Int) = 2 ^ 6 - 1 by decide, and_mask 6 (by decide), IntKind.wrap_i64]; omega
theorem and_m14 (v : Int) : bits .and .i64 (IntKind.i64.wrap v) 16383 = v % 16384 := by
  rw [show (16383 : Int) = 2 ^ 14 - 1 by decide, and_mask 14 (by decide), IntKind.wrap_i64]; omega
theorem and_m30 (v : Int) : bits .and .i64 (IntKind.i64.wrap v) 1073741823 = v % 1073741824 := by
  rw [show (1073741823 : Int) = 2 ^ 30 - 1 by decide, and_mask 30 (by decide), IntKind.wrap_i64]; omega
theorem and_m62 (v : Int) : bits .and .i64 (IntKind.i64.wrap v) 4611686018427387903 = v % 4611686018427387904 := by
  rw [show (4611686018427387903 : Int) = 2 ^ 62 - 1 by decide, and_mask 62 (by decide), IntKind.wrap_i64]; omega
end Go.Ev

/- Numbers of bytes: seat a's text with this seat's numbers (port.py). -/
namespace Go.Ev
open Go Go.Proofs
set_option linter.unusedSimpArgs false
set_option linter.unusedVariables false
theorem unfixed_ev {Hb H : AH} {s : AV} {l : List Int} (hs : Bs Hb s l) (hK : Kp Hb H) (hb : By l) (hl : l.length ≤ 8) (m : Nat) (hm : 10 ≤ m) :
    ev Try.prog m 90 [s] H = some (.int .i64 (IntKind.i64.wrap (valP l)), H) := by
  obtain ⟨m, rfl⟩ : ∃ k, m = k + 1 := ⟨m - 1, by omega⟩
  have hs := hs.kp hK
  rw [ev_eq Try.func90 ok90 m _ H (by simp [Try.f90])]
  simp [Try.f90, hs.len]
  generalize hL : evLoop _ _ _ _ _ _ = R
  obtain ⟨e, τ', H', rfl, rfl, rfl, g⟩ := loop_at hL (loop_rule (d := l.length) (fun d τ h => h = H ∧ ∃ k : Nat, k + d = l.length ∧ τ 6 = s ∧ τ 7 = .int .i64 l.length ∧ τ 8 = .int .i64 k ∧ τ 3 = .int .u64 (valP (l.take k))) (fun e τ h => e = .exit 0 ∧ h = H ∧ τ 3 = .int .u64 (valP l))
    (by
      rintro d τ h' ⟨rfl, k, hk, t6, t7, t8, t3⟩
      obtain ⟨b, o, a1, a2, a3⟩ := hs.at_
      by_cases hd : d = 0
      · subst hd
        have : k = l.length := by omega
        subst this
        rewrite [lp90_58]
        simp [Try.f90, t6, t7, t8, t3]
      · have hlt : k < l.length := by omega
        have hd0 : 1 ≤ d := by omega
        have hv := valP_take_lt hb k 7 (by omega)
        have hx := hb.at_ k hlt
        have w1 : IntKind.u64.wrap (valP (l.take k) * 256) = valP (l.take k) * 256 := by rw [IntKind.wrap_u64]; omega
        have w2 : IntKind.u64.wrap l[k] = l[k] := by rw [IntKind.wrap_u64]; omega
        have w3 := or_byte (u := valP (l.take k)) (x := l[k]) hv.1 (by simpa using hv.2) hx.1 hx.2
        rewrite [lp90_58]
        simp [Try.f90, t6, t7, t8, t3, hlt, a2 k hlt, a3 h' rfl k hlt, convA, IntKind.bits, w1, w2, w3, wrap_i64 (n := (k : Int) + 1) (by omega) (by omega)]
        exact ⟨d - 1, by omega, k + 1, by omega, by simp, by rw [valP_take_succ k hlt]⟩) ⟨rfl, 0, by simp, by simp, by simp, by simp, by simp [valP]⟩ (by omega))
  simp [g, convA]
theorem l01Value_ev {Hb H : AH} {s : AV} {l : List Int} (hs : Bs Hb s l) (hK : Kp Hb H) (hb : By l) (hl : l.length ≤ 4) (m : Nat) (hm : 10 ≤ m) :
    ev Try.prog m 86 [s] H = some (.int .i64 (valP l), H) := by
  obtain ⟨m, rfl⟩ : ∃ k, m = k + 1 := ⟨m - 1, by omega⟩
  have hs := hs.kp hK
  rw [ev_eq Try.func86 ok86 m _ H (by simp [Try.f86])]
  simp [Try.f86]
  generalize hL : evLoop _ _ _ _ _ _ = R
  obtain ⟨e, τ', H', rfl, rfl, rfl, g⟩ := loop_at hL (loop_rule (d := l.length) (fun d τ h => h = H ∧ ∃ k : Nat, k + d = l.length ∧ τ 0 = s ∧ τ 4 = .int .i64 k ∧ τ 3 = .int .i64 (valP (l.take k))) (fun e τ h => e = .exit 0 ∧ h = H ∧ τ 3 = .int .i64 (valP l))
    (by
      rintro d τ h' ⟨rfl, k, hk, t0, t4, t3⟩
      obtain ⟨b, o, a1, a2, a3⟩ := hs.at_
      by_cases hd : d = 0
      · subst hd
        have : k = l.length := by omega
        subst this
        rewrite [lp86_58]
        simp [Try.f86, t0, t4, t3, hs.len]
      · have hlt : k < l.length := by omega
        have hd0 : 1 ≤ d := by omega
        have hv := valP_take_lt hb k 3 (by omega)
        have hx := hb.at_ k hlt
        rewrite [lp86_58]
        simp [Try.f86, t0, t4, t3, hs.len, hlt, a2 k hlt, a3 h' rfl k hlt, convA, wrap_i64 (n := valP (l.take k) * 256) (by omega) (by omega), wrap_i64 (n := l[k]) (by omega) (by omega), wrap_i64 (n := valP (l.take k) * 256 + l[k]) (by omega) (by omega), wrap_i64 (n := (k : Int) + 1) (by omega) (by omega)]
        exact ⟨d - 1, by omega, k + 1, by omega, by simp, by rw [valP_take_succ k hlt]⟩) ⟨rfl, 0, by simp, by simp, by simp, by simp [valP]⟩ (by omega))
  simp [g]
end Go.Ev

/- The program's GetVar: seat a's text with this seat's numbers (port.py). -/
namespace Go.Ev
open Go Go.Proofs
set_option linter.unusedSimpArgs false
set_option linter.unusedVariables false

def gvN (x : Int) : Nat := 2 ^ (x / 64).toNat
/-- value, end, code -/
def getVarP (l : List Int) (at_ : Nat) : Int × Int × Int :=
  if at_ = l.length then (0, 0, 2)
  else if (l.length : Int) - at_ < gvN (l.getD at_ 0) then (0, 0, 2)
  else (valP ((l.drop at_).take (gvN (l.getD at_ 0))) % 2 ^ (8 * gvN (l.getD at_ 0) - 2), at_ + gvN (l.getD at_ 0), 0)

theorem valF_eq : ∀ (l : List Int) (v : Int), l.foldl (fun v x => v * 256 + x) v = v * 256 ^ l.length + valP l
  | [], v => by simp [valP]
  | x :: l, v => by
    have h1 := valF_eq l (v * 256 + x)
    have h2 := valF_eq l x
    have h3 : valP (x :: l) = l.foldl (fun v x => v * 256 + x) x := by simp [valP]
    rw [h3, h2, List.foldl_cons, h1, List.length_cons, Int.pow_succ, Int.add_mul, Int.mul_comm (256 ^ l.length) 256, ← Int.mul_assoc]
    omega
theorem valP_cons (x : Int) (l : List Int) : valP (x :: l) = x * 256 ^ l.length + valP l := by
  have h3 : valP (x :: l) = l.foldl (fun v x => v * 256 + x) x := by simp [valP]
  rw [h3, valF_eq]

theorem GetVarI_ev {Hb H : AH} {s : AV} {l : List Int} (hs : Bs Hb s l) (hK : Kp Hb H) (hb : By l) (hl : l.length ≤ 65536) (a : Nat) (ha : a ≤ l.length) (m : Nat) (hm : 20 ≤ m) :
    ev Try.prog m 132 [s, .int .i64 a] H = some (.tuple [.int .i64 (getVarP l a).1, .int .i64 (getVarP l a).2.1, .int .i64 (getVarP l a).2.2], H) := by
  obtain ⟨m, rfl⟩ : ∃ k, m = k + 1 := ⟨m - 1, by omega⟩
  have hs := hs.kp hK
  have c1 := tooLong_ev hs H m (by omega)
  have n1 : ¬ (65536 < (l.length : Int)) := by omega
  have n2 : ¬ ((a : Int) < 0) := by omega
  have n3 : ¬ ((l.length : Int) < a) := by omega
  simp only [n1, decide_false] at c1
  rw [ev_eq Try.func132 ok132 m _ H (by simp [Try.f132])]
  by_cases he : a = l.length
  · subst he
    simp [Try.f132, hs.len, c1, getVarP]
  · have hlt : a < l.length := by omega
    have he' : ¬ ((a : Int) = l.length) := by omega
    have hx := hb.at_ a hlt
    have hD : l.getD a 0 = l[a] := by simp [List.getD_eq_getElem?_getD, hlt]
    obtain ⟨b, o, a1, a2, a3⟩ := hs.at_
    obtain ⟨Q, hQ⟩ : ∃ Q : Nat, l[a] / 64 = Q := ⟨(l[a] / 64).toNat, by omega⟩
    have hf : l[a].fdiv 64 = Q := by rw [Int.fdiv_eq_ediv_of_nonneg _ (by decide)]; exact hQ
    have hN : gvN l[a] = 2 ^ Q := by unfold gvN; rw [hQ]; rfl
    have w0 : IntKind.i64.wrap ((l.length : Int) - a) = l.length - a := wrap_i64 (by omega) (by omega)
    have main : ∀ (n : Nat) (N : Int), N = n → (n = 1 ∨ n = 2 ∨ n = 4 ∨ n = 8) → ¬ ((l.length : Int) - a < N) → ∃ s', cutA Try.prog 22 s (some (some (.int .i64 a))) (some (some (.int .i64 (a + N)))) H = some s' ∧ ev Try.prog m 90 [s'] H = some (.int .i64 (IntKind.i64.wrap (valP ((l.drop a).take n))), H) := by
      intro n N hN hn hle
      subst hN
      obtain ⟨s', k1, k2⟩ := hs.cut a (a + n) (by omega) (by rw [u8L_len]; omega) (lo := some (some (.int .i64 a))) (hi := some (some (.int .i64 (a + n)))) (by simp) (by simp)
      refine ⟨s', k1, ?_⟩
      have k3 : Bs H s' ((l.drop a).take n) := by
        have : (List.take (a + n) (u8L l)).drop a = u8L ((l.drop a).take n) := by
          simp [u8L, List.drop_take]
        rw [this] at k2; exact k2
      exact unfixed_ev k3 (Kp.refl H) ((hb.drop a).take n) (by simp; omega) m (by omega)
    have hQ4 : Q = 0 ∨ Q = 1 ∨ Q = 2 ∨ Q = 3 := by omega
    simp only [getVarP, hD, hN, he]
    rcases hQ4 with rfl | rfl | rfl | rfl
    · by_cases hle : (l.length : Int) - a < 1
      · simp [Try.f132, hs.len, c1, n2, n3, he', hlt, a2 a hlt, a3 H rfl a hlt, hf, IntKind.bits, w0, hle, wrap_i64 (n := 1) (by omega) (by omega)]
      · obtain ⟨s', k1, k2⟩ := main 1 1 rfl (by omega) hle
        have w1 : IntKind.i64.wrap ((a : Int) + 1) = a + 1 := wrap_i64 (by omega) (by omega)
        simp [Try.f132, hs.len, c1, n2, n3, he', hlt, a2 a hlt, a3 H rfl a hlt, hf, IntKind.bits, w0, hle, wrap_i64 (n := 1) (by omega) (by omega), evHist, ObsOk, ObOk, w1, k1, k2, wrap_i64 (n := 8) (by omega) (by omega), wrap_i64 (n := 6) (by omega) (by omega), wrap_i64 (n := 64) (by omega) (by omega), wrap_i64 (n := 63) (by omega) (by omega), and_m6]
    · by_cases hle : (l.length : Int) - a < 2
      · simp [Try.f132, hs.len, c1, n2, n3, he', hlt, a2 a hlt, a3 H rfl a hlt, hf, IntKind.bits, w0, hle, wrap_i64 (n := 2) (by omega) (by omega)]
      · obtain ⟨s', k1, k2⟩ := main 2 2 rfl (by omega) hle
        have w1 : IntKind.i64.wrap ((a : Int) + 2) = a + 2 := wrap_i64 (by omega) (by omega)
        simp [Try.f132, hs.len, c1, n2, n3, he', hlt, a2 a hlt, a3 H rfl a hlt, hf, IntKind.bits, w0, hle, wrap_i64 (n := 2) (by omega) (by omega), evHist, ObsOk, ObOk, w1, k1, k2, wrap_i64 (n := 16) (by omega) (by omega), wrap_i64 (n := 14) (by omega) (by omega), wrap_i64 (n := 16384) (by omega) (by omega), wrap_i64 (n := 16383) (by omega) (by omega), and_m14]
    · by_cases hle : (l.length : Int) - a < 4
      · simp [Try.f132, hs.len, c1, n2, n3, he', hlt, a2 a hlt, a3 H rfl a hlt, hf, IntKind.bits, w0, hle, wrap_i64 (n := 4) (by omega) (by omega)]
      · obtain ⟨s', k1, k2⟩ := main 4 4 rfl (by omega) hle
        have w1 : IntKind.i64.wrap ((a : Int) + 4) = a + 4 := wrap_i64 (by omega) (by omega)
        simp [Try.f132, hs.len, c1, n2, n3, he', hlt, a2 a hlt, a3 H rfl a hlt, hf, IntKind.bits, w0, hle, wrap_i64 (n := 4) (by omega) (by omega), evHist, ObsOk, ObOk, w1, k1, k2, wrap_i64 (n := 32) (by omega) (by omega), wrap_i64 (n := 30) (by omega) (by omega), wrap_i64 (n := 1073741824) (by omega) (by omega), wrap_i64 (n := 1073741823) (by omega) (by omega), and_m30]
    · by_cases hle : (l.length : Int) - a < 8
      · simp [Try.f132, hs.len, c1, n2, n3, he', hlt, a2 a hlt, a3 H rfl a hlt, hf, IntKind.bits, w0, hle, wrap_i64 (n := 8) (by omega) (by omega)]
      · obtain ⟨s', k1, k2⟩ := main 8 8 rfl (by omega) hle
        have w1 : IntKind.i64.wrap ((a : Int) + 8) = a + 8 := wrap_i64 (by omega) (by omega)
        simp [Try.f132, hs.len, c1, n2, n3, he', hlt, a2 a hlt, a3 H rfl a hlt, hf, IntKind.bits, w0, hle, wrap_i64 (n := 8) (by omega) (by omega), evHist, ObsOk, ObOk, w1, k1, k2, wrap_i64 (n := 64) (by omega) (by omega), wrap_i64 (n := 62) (by omega) (by omega), wrap_i64 (n := 4611686018427387904) (by omega) (by omega), wrap_i64 (n := 4611686018427387903) (by omega) (by omega), and_m62]
end Go.Ev

/- The specification's GetVar: seat a's text with this seat's numbers (port.py). -/
namespace Go.Ev
open Go Go.Proofs
set_option linter.unusedSimpArgs false
set_option linter.unusedVariables false

theorem gv_loop1 (Q : Nat) (hQ : Q ≤ 3) (call : CallF) (m : Nat) (hm : 10 ≤ m) (τ : Tm) (H : AH) (t8 : τ 8 = .int .i64 Q) (t7 : τ 7 = .int .i64 1) (s a : AV) (t0 : τ 0 = s) (t1 : τ 1 = a) :
    ∃ e τ' H', evLoop Try.prog call m (lp Try.prog 120 506) τ H = some (e, τ', H') ∧ e = .exit 0 ∧ H' = H ∧ τ' 7 = .int .i64 (2 ^ Q : Nat) ∧ τ' 0 = s ∧ τ' 1 = a := by
  refine loop_rule (d := Q) (fun d τ h => h = H ∧ d ≤ Q ∧ τ 8 = .int .i64 d ∧ τ 7 = .int .i64 (2 ^ (Q - d) : Nat) ∧ τ 0 = s ∧ τ 1 = a) (fun e τ h => e = .exit 0 ∧ h = H ∧ τ 7 = .int .i64 (2 ^ Q : Nat) ∧ τ 0 = s ∧ τ 1 = a)
    ?_ ⟨rfl, Nat.le_refl _, t8, by simp [t7], t0, t1⟩ (by omega)
  rintro d τ h' ⟨rfl, hd, t8, t7, t0, t1⟩
  by_cases h0 : d = 0
  · subst h0
    rewrite [lp120_506]
    simp [Try.f120, t7, t8, t0, t1]
  · have h1 : 0 < d := by omega
    have hp : ((2 ^ (Q - (d - 1)) : Nat) : Int) = 2 * (2 ^ (Q - d) : Nat) := by
      rw [show Q - (d - 1) = (Q - d) + 1 by omega, Nat.pow_succ]; omega
    have hb : (2 ^ (Q - d) : Nat) ≤ 8 := by
      have : 2 ^ (Q - d) ≤ 2 ^ 3 := Nat.pow_le_pow_right (by omega) (by omega)
      omega
    have w2 : IntKind.i64.wrap ((d : Int) - 1) = (d - 1 : Nat) := by rw [wrap_i64 (by omega) (by omega)]; omega
    generalize hX : (2 ^ (Q - d) : Nat) = X at *
    generalize hY : (2 ^ (Q - (d - 1)) : Nat) = Y at *
    have w1 : IntKind.i64.wrap (2 * (X : Int)) = (Y : Int) := by rw [hp, wrap_i64 (by omega) (by omega)]
    rewrite [lp120_506]
    simp [Try.f120, t7, t8, t0, t1, h1, w1, w2]
    exact ⟨d - 1, by omega, by omega, rfl, by rw [← hY]; simp⟩
theorem gv_loop2 {s : AV} {l : List Int} {H : AH} (hs : Bs H s l) (hb : By l) (hl : l.length ≤ 65536) (a : Nat) (n : Nat) (hn1 : 1 ≤ n) (hn : n ≤ 8) (ha : a + n ≤ l.length) (x : Int) (hx0 : 0 ≤ x) (hx1 : x < 64) (call : CallF) (m : Nat) (hm : 10 ≤ m) (τ : Tm)
    (t0 : τ 0 = s) (t1 : τ 1 = .int .i64 a) (t7 : τ 7 = .int .i64 n) (t9 : τ 9 = .int .i64 x) (t10 : τ 10 = .int .i64 1) :
    ∃ e τ' H', evLoop Try.prog call m (lp Try.prog 120 4090) τ H = some (e, τ', H') ∧ e = .exit 2 ∧ H' = H ∧ τ' 9 = .int .i64 (((l.drop (a + 1)).take (n - 1)).foldl (fun v x => v * 256 + x) x) ∧ τ' 1 = .int .i64 a ∧ τ' 7 = .int .i64 n := by
  refine loop_rule (d := n - 1) (fun d τ h => h = H ∧ ∃ k : Nat, k + d = n - 1 ∧ τ 0 = s ∧ τ 1 = .int .i64 a ∧ τ 7 = .int .i64 n ∧ τ 10 = .int .i64 (k + 1 : Nat) ∧ τ 9 = .int .i64 (((l.drop (a + 1)).take k).foldl (fun v x => v * 256 + x) x))
    (fun e τ h => e = .exit 2 ∧ h = H ∧ τ 9 = .int .i64 (((l.drop (a + 1)).take (n - 1)).foldl (fun v x => v * 256 + x) x) ∧ τ 1 = .int .i64 a ∧ τ 7 = .int .i64 n)
    ?_ ⟨rfl, 0, by omega, t0, t1, t7, by simp [t10], by simp [t9]⟩ (by omega)
  rintro d τ h' ⟨rfl, k, hk, t0, t1, t7, t10, t9⟩
  obtain ⟨b, o, a1, a2, a3⟩ := hs.at_
  by_cases h0 : d = 0
  · subst h0
    have hkn : k = n - 1 := by omega
    subst hkn
    rw [show n - 1 + 1 = n by omega] at t10
    rewrite [lp120_4090]
    simp [Try.f120, t7, t9, t0, t1, t10]
  · have hd0 : 1 ≤ d := by omega
    have hlt : a + (k + 1) < l.length := by omega
    have hv := valF_lt ((l.drop (a + 1)).take k) x ((hb.drop _).take _) hx0
    have hpk : (256 : Int) ^ ((l.drop (a + 1)).take k).length ≤ 256 ^ 6 := by
      have : (256 : Nat) ^ ((l.drop (a + 1)).take k).length ≤ 256 ^ 6 := Nat.pow_le_pow_right (by omega) (by simp; omega)
      have h3 := Int.ofNat_le.mpr this
      rw [Int.natCast_pow, Int.natCast_pow] at h3
      exact h3
    have hvb : ((l.drop (a + 1)).take k).foldl (fun v x => v * 256 + x) x < 64 * 256 ^ 6 := by
      refine Int.lt_of_lt_of_le hv.2 ?_
      refine Int.le_trans (Int.mul_le_mul_of_nonneg_left hpk (by omega)) ?_
      have : (x + 1) * 256 ^ 6 ≤ 64 * 256 ^ 6 := Int.mul_le_mul_of_nonneg_right (by omega) (by decide)
      exact this
    have hvb' : ((l.drop (a + 1)).take k).foldl (fun v x => v * 256 + x) x < 18014398509481984 := hvb
    have hg : ((l.drop (a + 1)).take (k + 1)).foldl (fun v x => v * 256 + x) x = ((l.drop (a + 1)).take k).foldl (fun v x => v * 256 + x) x * 256 + l[a + (k + 1)] := by
      rw [List.take_add_one, List.getElem?_drop, List.getElem?_eq_getElem (by omega)]
      simp only [Option.toList_some, List.foldl_append, List.foldl_cons, List.foldl_nil]
      congr 2; omega
    have hy := hb.at_ _ hlt
    generalize hV : ((l.drop (a + 1)).take k).foldl (fun v x => v * 256 + x) x = V at *
    have hc : ((k + 1 : Nat) : Int) < (n : Int) := by omega
    have w1 : IntKind.i64.wrap ((a : Int) + ((k + 1 : Nat) : Int)) = (a + (k + 1) : Nat) := by rw [wrap_i64 (by omega) (by omega)]; omega
    have w2 : IntKind.i64.wrap (V * 256) = V * 256 := wrap_i64 (by omega) (by omega)
    have w3 : IntKind.i64.wrap (l[a + (k + 1)]) = l[a + (k + 1)] := wrap_i64 (by omega) (by omega)
    have w4 : IntKind.i64.wrap (V * 256 + l[a + (k + 1)]) = V * 256 + l[a + (k + 1)] := wrap_i64 (by omega) (by omega)
    have w5 : IntKind.i64.wrap (((k + 1 : Nat) : Int) + 1) = (k + 1 + 1 : Nat) := by rw [wrap_i64 (by omega) (by omega)]; omega
    have i1 := a2 _ hlt
    have i2 := a3 h' rfl _ hlt
    generalize hX : (k + 1 : Nat) = X at *
    rw [Int.natCast_add] at i1 w1
    rewrite [lp120_4090]
    simp [Try.f120, t7, t9, t0, t1, t10, hc, w1, i1, i2, w2, w3, w4, w5, convA]
    exact ⟨d - 1, by omega, X, by omega, by omega, by rw [hg]⟩
theorem gv_val {l : List Int} (hb : By l) (a n : Nat) (hn : n = 1 ∨ n = 2 ∨ n = 4 ∨ n = 8) (ha : a + n ≤ l.length) (h : a < l.length) :
    ((l.drop (a + 1)).take (n - 1)).foldl (fun v x => v * 256 + x) (l[a] % 64) = valP ((l.drop a).take n) % 2 ^ (8 * n - 2) := by
  have h1 : (l.drop a).take n = l[a] :: (l.drop (a + 1)).take (n - 1) := by
    obtain ⟨k, rfl⟩ : ∃ k, n = k + 1 := ⟨n - 1, by omega⟩
    rw [List.drop_eq_getElem_cons h, List.take_succ_cons]
    rfl
  have hx := hb.at_ a h
  have hr := valP_lt _ ((hb.drop (a + 1)).take (n - 1))
  have hlen : ((l.drop (a + 1)).take (n - 1)).length = n - 1 := by simp; omega
  rw [h1, valP_cons, valF_eq]
  rw [hlen] at hr ⊢
  generalize valP ((l.drop (a + 1)).take (n - 1)) = V at *
  generalize l[a] = x at *
  rcases hn with rfl | rfl | rfl | rfl
  · simp at hr ⊢; omega
  · simp at hr ⊢; omega
  · simp at hr ⊢; omega
  · simp at hr ⊢; omega
theorem GetVarS_ev {Hb H : AH} {s : AV} {l : List Int} (hs : Bs Hb s l) (hK : Kp Hb H) (hb : By l) (hl : l.length ≤ 65536) (a : Nat) (ha : a ≤ l.length) (m : Nat) (hm : 20 ≤ m) :
    ev Try.prog m 120 [s, .int .i64 a] H = some (.tuple [.int .i64 (getVarP l a).1, .int .i64 (getVarP l a).2.1, .int .i64 (getVarP l a).2.2], H) := by
  obtain ⟨m, rfl⟩ : ∃ k, m = k + 1 := ⟨m - 1, by omega⟩
  have hs := hs.kp hK
  have n1 : ¬ (65536 < (l.length : Int)) := by omega
  have n3 : ¬ ((l.length : Int) < a) := by omega
  rw [ev_eq Try.func120 ok120 m _ H (by simp [Try.f120])]
  by_cases he : a = l.length
  · subst he
    simp [Try.f120, hs.len, n1, getVarP]
  · have hlt : a < l.length := by omega
    have he' : ¬ ((a : Int) = l.length) := by omega
    have hx := hb.at_ a hlt
    have hD : l.getD a 0 = l[a] := by simp [List.getD_eq_getElem?_getD, hlt]
    obtain ⟨b, o, a1, a2, a3⟩ := hs.at_
    obtain ⟨Q, hQ⟩ : ∃ Q : Nat, l[a] / 64 = Q := ⟨(l[a] / 64).toNat, by omega⟩
    have hQ3 : Q ≤ 3 := by omega
    have hf : IntKind.i64.wrap (l[a].tdiv 64) = Q := by rw [Int.tdiv_eq_ediv_of_nonneg hx.1, hQ, wrap_i64 (by omega) (by omega)]
    have hr : IntKind.i64.wrap (l[a].tmod 64) = l[a] % 64 := by rw [Int.tmod_eq_emod_of_nonneg hx.1, wrap_i64 (by omega) (by omega)]
    have hr' : l[a].tmod 64 = l[a] % 64 := by rw [Int.tmod_eq_emod_of_nonneg hx.1]
    have hw : IntKind.i64.wrap l[a] = l[a] := wrap_i64 (by omega) (by omega)
    have hN : gvN l[a] = 2 ^ Q := by unfold gvN; rw [hQ]; rfl
    have hN4 : 2 ^ Q = 1 ∨ 2 ^ Q = 2 ∨ 2 ^ Q = 4 ∨ 2 ^ Q = 8 := by
      have : Q = 0 ∨ Q = 1 ∨ Q = 2 ∨ Q = 3 := by omega
      rcases this with rfl | rfl | rfl | rfl <;> simp
    have w0 : IntKind.i64.wrap ((l.length : Int) - a) = l.length - a := wrap_i64 (by omega) (by omega)
    have hgv := getVarP
    simp [Try.f120, hs.len, n1, n3, he', hlt, a2 a hlt, a3 H rfl a hlt, hf, hw, convA]
    generalize hL : evLoop _ _ _ _ _ _ = R
    obtain ⟨e, τ', H', rfl, rfl, rfl, g7, g0, g1⟩ := loop_at hL (gv_loop1 Q hQ3 _ m (by omega) _ _ (by simp) (by simp) s (.int .i64 a) (by simp) (by simp))
    clear hL
    simp only [getVarP, hD, hN, he]
    generalize hn : 2 ^ Q = n at *
    by_cases hle : (l.length : Int) - a < n
    · simp [g7, g0, g1, hs.len, w0, hle]
    · simp [g7, g0, g1, hs.len, w0, hle, hlt, a2 a hlt, a3 H' rfl a hlt, hw, hr, hr']
      generalize hL : evLoop _ _ _ _ _ _ = R
      obtain ⟨e, τ'', H', rfl, rfl, rfl, k9, k1, k7⟩ := loop_at hL (gv_loop2 hs hb hl a n (by omega) (by omega) (by omega) (l[a] % 64) (by omega) (by omega) _ m (by omega) _ (by simp [g0]) (by simp [g1]) (by simp [g7]) (by simp) (by simp))
      clear hL
      have w3 : IntKind.i64.wrap ((a : Int) + n) = a + n := wrap_i64 (by omega) (by omega)
      simp [k9, k1, k7, w3]
      exact gv_val hb a n hN4 (by omega) hlt
end Go.Ev

/- The scanner: seat a's text with this seat's numbers (port.py). -/
namespace Go.Ev
open Go Go.Proofs
set_option linter.unusedSimpArgs false
set_option linter.unusedVariables false

/-- all that was there is as it was, but for q -/
structure Kx (q : Nat) (H H' : AH) : Prop where
  next : H.next ≤ H'.next
  get : ∀ b, b < H.next → b ≠ q → H'.get b = H.get b
theorem Kx.refl (q : Nat) (H : AH) : Kx q H H := ⟨Nat.le_refl _, fun _ _ _ => rfl⟩
theorem Kx.trans {q : Nat} {A B C : AH} (h : Kx q A B) (k : Kx q B C) : Kx q A C := ⟨Nat.le_trans h.next k.next, fun b hb hq => (k.get b (Nat.lt_of_lt_of_le hb h.next) hq).trans (h.get b hb hq)⟩
theorem Kx.of {q : Nat} {A B : AH} (h : Kp A B) : Kx q A B := ⟨h.next, fun b hb _ => h.get b hb⟩
theorem Kx.set {A B : AH} {q : Nat} (h : Kx q A B) (x : Blk) : Kx q A (B.set q x) := ⟨h.next, fun c hc hq => by
  rw [AH.set_get, if_neg hq]; exact h.get c hc hq⟩
theorem Kx.kp {A H H' : AH} {q : Nat} (h : Kp A H) (k : Kx q H H') (hq : A.next ≤ q) : Kp A H' :=
  ⟨Nat.le_trans h.next k.next, fun b hb => by rw [k.get b (Nat.lt_of_lt_of_le hb h.next) (by omega)]; exact h.get b hb⟩
theorem Ow.kx {lo hi q : Nat} {H H' : AH} {s : AV} {l : List Int} (h : Ow lo hi H s l) (hK : Kx q H H') (hd : q < lo ∨ hi ≤ q) : Ow lo hi H' s l := by
  rcases h with h | ⟨b, h1, h2, h3, h4, h5⟩
  · exact .inl h
  · exact .inr ⟨b, h1, h2, Nat.le_trans h3 hK.next, h4, by rw [hK.get b (by omega) (by omega)]; exact h5⟩

/-! the scanner -/
def scB (s : AV) (a : Nat) (c : Int) : Blk := .cells 130 false [s, .int .i64 a, .int .i64 c]
/-- the bytes, the place, the code -/
def takeI (l : List Int) (a : Nat) (c : Int) (n : Int) : List Int × Nat × Int :=
  if c ≠ 0 then ([], a, c) else if n < 0 ∨ (l.length : Int) - a < n then ([], a, 2) else ((l.drop a).take n.toNat, a + n.toNat, 0)
theorem fail_ev {H : AH} {q a : Nat} {s : AV} {c e : Int} (hq : H.get q = some (scB s a c)) (m : Nat) (hm : 1 ≤ m) :
    ev Try.prog m 123 [.ptr q 0, .int .i64 e] H = some (U, if c = 0 then H.set q (scB s a e) else H) := by
  obtain ⟨m, rfl⟩ : ∃ k, m = k + 1 := ⟨m - 1, by omega⟩
  unfold scB at *
  rw [ev_eq Try.func123 ok123 m _ H (by simp [Try.f123])]
  by_cases hc : c = 0
  · simp [Try.f123, ldVar, stVar, hq, hc, U]
  · simp [Try.f123, ldVar, stVar, hq, hc, U]
theorem cutBs {Hb : AH} {s : AV} {l : List Int} (hs : Bs Hb s l) (a n : Nat) (h : a + n ≤ l.length) {A N : Int} (hA : A = a) (hN : N = a + n) :
    ∃ s', (∀ H, Kp Hb H → cutA Try.prog 22 s (some (some (.int .i64 A))) (some (some (.int .i64 N))) H = some s') ∧ Bs Hb s' ((l.drop a).take n) := by
  subst hA; subst hN
  have h1 : (List.take (a + n) (u8L l)).drop a = u8L ((l.drop a).take n) := by simp [u8L, List.drop_take]
  obtain ⟨s', k1, k2⟩ := hs.cut a (a + n) (by omega) (by rw [u8L_len]; omega) (lo := some (some (.int .i64 a))) (hi := some (some (.int .i64 (a + n)))) (by simp) (by simp)
  rw [h1] at k2
  refine ⟨s', fun H hK => ?_, k2⟩
  rcases hs.lie with ⟨rfl, _⟩ | ⟨b, o, ro, xs, rfl, hn, hg, _⟩
  · rw [← k1]; simp [cutA]
  · rw [← k1]; simp only [cutA, tyU22, tyS5, hK.get b hn]
theorem take_ev {Hb H : AH} {q a : Nat} {s : AV} {l : List Int} {c : Int} (hs : Bs Hb s l) (hK : Kp Hb H) (hqb : Hb.next ≤ q) (hq : H.get q = some (scB s a c)) (ha : a ≤ l.length) (hl : l.length ≤ 65536) (n : Int) (hn0 : -281474976710 ≤ n) (m : Nat) (hm : 2 ≤ m) :
    ∃ r H', ev Try.prog m 124 [.ptr q 0, .int .i64 n] H = some (r, H') ∧ Kx q H H' ∧ H'.next = H.next ∧ Bs Hb r (takeI l a c n).1 ∧ H'.get q = some (scB s (takeI l a c n).2.1 (takeI l a c n).2.2) ∧ (takeI l a c n).2.1 ≤ l.length := by
  obtain ⟨m, rfl⟩ : ∃ k, m = k + 1 := ⟨m - 1, by omega⟩
  have hf := fail_ev (e := (2)) hq m (by omega)
  have hs' := hs.kp hK
  have hq0 := hq
  unfold scB at hq
  rw [ev_eq Try.func124 ok124 m _ H (by simp [Try.f124])]
  by_cases hc : c = 0
  · subst hc
    have w0 : IntKind.i64.wrap ((l.length : Int) - a) = l.length - a := wrap_i64 (by omega) (by omega)
    by_cases h1 : n < 0
    · refine ⟨.nilSlice, H.set q (scB s a 2), ?_, (Kx.refl q H).set _, rfl, ?_⟩
      · simp [Try.f124, ldVar, hq, h1, hf]
      · simp [takeI, h1, ha, Bs.nil]
    · by_cases h2 : (l.length : Int) - a < n
      · refine ⟨.nilSlice, H.set q (scB s a 2), ?_, (Kx.refl q H).set _, rfl, ?_⟩
        · simp [Try.f124, ldVar, hq, h1, hf, hs'.len, w0, h2]
        · simp [takeI, h1, h2, ha, Bs.nil]
      · obtain ⟨N, rfl⟩ := Int.eq_ofNat_of_zero_le (by omega : 0 ≤ n)
        have w1 : IntKind.i64.wrap ((a : Int) + N) = a + N := wrap_i64 (by omega) (by omega)
        obtain ⟨s', k1, k2⟩ := cutBs hs a N (by omega) rfl rfl
        refine ⟨s', H.set q (scB s (a + N) 0), ?_, (Kx.refl q H).set _, rfl, ?_⟩
        · simp [Try.f124, ldVar, stVar, hq, h1, hs'.len, w0, h2, w1, k1 H hK, scB, evHist, ObsOk, ObOk, hs.one]
        · simp [takeI, h1, h2]
          exact ⟨k2, by omega⟩
  · refine ⟨.nilSlice, H, ?_, Kx.refl q H, rfl, ?_⟩
    · simp [Try.f124, ldVar, hq, hc]
    · simp [takeI, hc, ha, Bs.nil, hq0]

def octV : List Int → Int
  | [x] => x
  | _ => 0
def octetI (l : List Int) (a : Nat) (c : Int) : Int × Nat × Int := (octV (takeI l a c 1).1, (takeI l a c 1).2)
theorem takeI_by {l : List Int} (hb : By l) (a : Nat) (c n : Int) : By (takeI l a c n).1 := by
  unfold takeI; split
  · intro x hx; simp at hx
  · split
    · intro x hx; simp at hx
    · exact (hb.drop _).take _
theorem takeI_len (l : List Int) (a : Nat) (c n : Int) : (takeI l a c n).1.length ≤ n.toNat ∧ (takeI l a c n).1.length ≤ l.length := by
  unfold takeI; split
  · simp
  · split
    · simp
    · simp; omega
theorem octV_by {l : List Int} (hb : By l) : 0 ≤ octV l ∧ octV l < 256 := by
  unfold octV; split
  · exact hb _ (by simp)
  · omega
theorem octet_ev {Hb H : AH} {q a : Nat} {s : AV} {l : List Int} {c : Int} (hs : Bs Hb s l) (hb : By l) (hK : Kp Hb H) (hqb : Hb.next ≤ q) (hq : H.get q = some (scB s a c)) (ha : a ≤ l.length) (hl : l.length ≤ 65536) (m : Nat) (hm : 3 ≤ m) :
    ∃ H', ev Try.prog m 122 [.ptr q 0] H = some (.int .i64 (octetI l a c).1, H') ∧ Kx q H H' ∧ H'.next = H.next ∧ H'.get q = some (scB s (octetI l a c).2.1 (octetI l a c).2.2) ∧ (octetI l a c).2.1 ≤ l.length := by
  obtain ⟨m, rfl⟩ : ∃ k, m = k + 1 := ⟨m - 1, by omega⟩
  obtain ⟨r, H', k1, k2, k3, k4, k5, k6⟩ := take_ev hs hK hqb hq ha hl 1 (by omega) m (by omega)
  refine ⟨H', ?_, k2, k3, k5, k6⟩
  have hby := takeI_by hb a c 1
  have hln := (takeI_len l a c 1).1
  rw [ev_eq Try.func122 ok122 m _ H (by simp [Try.f122])]
  have k4' := k4.kp (k2.kp hK hqb)
  unfold octetI
  generalize (takeI l a c 1).1 = t at *
  obtain ⟨b, o, a1, a2, a3⟩ := k4'.at_
  match t, hln with
  | [], _ => simp [Try.f122, k1, k4'.len, octV]
  | [x], _ =>
    have i1 := a2 0 (by simp)
    have i2 := a3 H' rfl 0 (by simp)
    have hx := hby x (by simp)
    simp at i1 i2
    simp [Try.f122, k1, k4'.len, octV, i1, i2, convA, wrap_i64 (n := x) (by omega) (by omega)]
  | x :: y :: t, h => simp at h

def numberI (l : List Int) (a : Nat) (c : Int) : Int × Nat × Int :=
  if c ≠ 0 then (0, a, c) else if (getVarP l a).2.2 ≠ 0 then (0, a, (getVarP l a).2.2) else ((getVarP l a).1, (getVarP l a).2.1.toNat, 0)
theorem getVarP_end {l : List Int} {a : Nat} (h : (getVarP l a).2.2 = 0) : ∃ e : Nat, (getVarP l a).2.1 = e ∧ a ≤ e ∧ e ≤ l.length := by
  unfold getVarP at h ⊢
  by_cases h1 : a = l.length
  · simp [h1] at h
  · by_cases h2 : (l.length : Int) - a < gvN (l.getD a 0)
    · rw [if_neg h1, if_pos h2] at h; simp at h
    · rw [if_neg h1, if_neg h2]
      exact ⟨a + gvN (l.getD a 0), by simp, by omega, by omega⟩
theorem getVarP_code (l : List Int) (a : Nat) : (getVarP l a).2.2 = 0 ∨ (getVarP l a).2.2 = 2 := by
  unfold getVarP
  split
  · simp
  · split <;> simp
theorem number_ev {Hb H : AH} {q a : Nat} {s : AV} {l : List Int} {c : Int} (hs : Bs Hb s l) (hb : By l) (hK : Kp Hb H) (hqb : Hb.next ≤ q) (hq : H.get q = some (scB s a c)) (ha : a ≤ l.length) (hl : l.length ≤ 65536) (m : Nat) (hm : 21 ≤ m) :
    ∃ H', ev Try.prog m 126 [.ptr q 0] H = some (.int .i64 (numberI l a c).1, H') ∧ Kx q H H' ∧ H'.next = H.next ∧ H'.get q = some (scB s (numberI l a c).2.1 (numberI l a c).2.2) ∧ (numberI l a c).2.1 ≤ l.length := by
  obtain ⟨m, rfl⟩ : ∃ k, m = k + 1 := ⟨m - 1, by omega⟩
  rw [ev_eq Try.func126 ok126 m _ H (by simp [Try.f126])]
  have hq0 := hq
  unfold scB at hq
  have hg := GetVarI_ev hs hK hb hl a ha m (by omega)
  by_cases hc : c = 0
  · subst hc
    by_cases h2 : (getVarP l a).2.2 = 0
    · obtain ⟨e, h3, h4, h5⟩ := getVarP_end h2
      refine ⟨H.set q (scB s e 0), ?_, (Kx.refl q H).set _, rfl, ?_⟩
      · simp [Try.f126, ldVar, stVar, hq, hg, h2, h3, numberI, scB, hs.one]
      · simp [numberI, h2, h3, h5]
    · have hf := fail_ev (e := (getVarP l a).2.2) hq0 m (by omega)
      refine ⟨H.set q (scB s a (getVarP l a).2.2), ?_, (Kx.refl q H).set _, rfl, ?_⟩
      · simp [Try.f126, ldVar, stVar, hq, hg, h2, numberI, hf, hs.one]
      · simp [numberI, h2, ha]
  · refine ⟨H, ?_, Kx.refl q H, rfl, ?_⟩
    · simp [Try.f126, ldVar, hq, hc, numberI]
    · simp [numberI, hc, ha, hq0]

end Go.Ev

/- The specification's reader: seat a's text with this seat's numbers (port.py). -/
namespace Go.Ev
open Go Go.Proofs
set_option linter.unusedSimpArgs false
set_option linter.unusedVariables false

def rdB (s : AV) (a : Nat) (sh : Bool) : Blk := .cells 106 false [s, .int .i64 a, .bool sh]
def takeS (l : List Int) (a : Nat) (sh : Bool) (n : Int) : List Int × Nat × Bool :=
  if sh = true ∨ (l.length : Int) - a < n then ([], a, true) else ((l.drop a).take n.toNat, a + n.toNat, false)
theorem takeS_by {l : List Int} (hb : By l) (a : Nat) (sh : Bool) (n : Int) : By (takeS l a sh n).1 := by
  unfold takeS; split
  · intro x hx; simp at hx
  · exact (hb.drop _).take _
theorem takeS_len (l : List Int) (a : Nat) (sh : Bool) (n : Int) : (takeS l a sh n).1.length ≤ n.toNat ∧ (takeS l a sh n).1.length ≤ l.length := by
  unfold takeS; split
  · simp
  · simp; omega
theorem takeR_ev {Hb H : AH} {q a : Nat} {s : AV} {l : List Int} {sh : Bool} (hs : Bs Hb s l) (hK : Kp Hb H) (hqb : Hb.next ≤ q) (hqn : q < H.next) (hq : H.get q = some (rdB s a sh)) (ha : a ≤ l.length) (hl : l.length ≤ 65536) (n : Int) (hn0 : 0 ≤ n) (hn1 : n ≤ 4611686018427387904) (m : Nat) (hm : 2 ≤ m) :
    ∃ r H', ev Try.prog m 99 [.ptr q 0, .int .i64 n] H = some (r, H') ∧ Kx q H H' ∧ Ow H.next H'.next H' r (takeS l a sh n).1 ∧ H'.get q = some (rdB s (takeS l a sh n).2.1 (takeS l a sh n).2.2) ∧ (takeS l a sh n).2.1 ≤ l.length := by
  obtain ⟨m, rfl⟩ : ∃ k, m = k + 1 := ⟨m - 1, by omega⟩
  have hs' := hs.kp hK
  have hne : ¬ (q = H.next) := by omega
  unfold rdB at *
  rw [ev_eq Try.func99 ok99 m _ H (by simp [Try.f99])]
  have w0 : IntKind.i64.wrap ((l.length : Int) - a) = l.length - a := wrap_i64 (by omega) (by omega)
  have fin : Kx q H ((H.set q (rdB s a true)).push (.cells 5 false [])) := ⟨by simp, fun b hb hbq => by simp [hbq]; intro h; omega⟩
  cases sh with
  | true =>
    refine ⟨.slice H.next 0 0, (H.set q (rdB s a true)).push (.cells 5 false []), ?_, fin, .inr ⟨H.next, Nat.le_refl _, by simp, by simp, ?_, ?_⟩, ?_⟩
    · simp [Try.f99, ldVar, stVar, hq, hne, rdB, hs.one]
    · simp [takeS]
    · simp [takeS, u8L]
    · simp [takeS, hne, rdB, ha]
  | false =>
    by_cases h2 : (l.length : Int) - a < n
    · refine ⟨.slice H.next 0 0, (H.set q (rdB s a true)).push (.cells 5 false []), ?_, fin, .inr ⟨H.next, Nat.le_refl _, by simp, by simp, ?_, ?_⟩, ?_⟩
      · simp [Try.f99, ldVar, stVar, hq, hne, rdB, hs.one, hs'.len, w0, h2]
      · simp [takeS, h2]
      · simp [takeS, h2, u8L]
      · simp [takeS, h2, hne, rdB, ha]
    · obtain ⟨N, rfl⟩ := Int.eq_ofNat_of_zero_le hn0
      have w1 : IntKind.i64.wrap ((a : Int) + N) = a + N := wrap_i64 (by omega) (by omega)
      have w2 : IntKind.i64.wrap (a : Int) = a := wrap_i64 (by omega) (by omega)
      obtain ⟨s', k1, k2⟩ := cutBs hs a N (by omega) rfl rfl
      have K2 : Kp Hb (H.set q (rdB s (a + N) false)) := hK.set hqb _
      have k3 := k1 _ K2
      obtain ⟨r, H', y1, y2, y3⟩ := l03Copy_ev k2 K2 (by simp; omega) m (by omega)
      have hn := y2.next
      simp only [AH.set_next] at hn y3
      refine ⟨r, H', ?_, ⟨hn, fun b hb hbq => ?_⟩, ?_, ?_⟩
      · simp only [rdB] at *
        push_cast at y1 k3
        simp [Try.f99, ldVar, stVar, hq, hne, hs.one, hs'.len, w0, h2, w1, w2, k3, y1]
      · rw [y2.get b (by simpa using hb), AH.set_get, if_neg hbq]
      · simp [takeS, h2]; exact y3
      · simp [takeS, h2]
        exact ⟨by rw [y2.get q (by simpa using hqn)]; simp [rdB], by omega⟩
theorem fixed_ev {Hb H : AH} {q a : Nat} {s : AV} {l : List Int} {sh : Bool} (hs : Bs Hb s l) (hb : By l) (hK : Kp Hb H) (hqb : Hb.next ≤ q) (hqn : q < H.next) (hq : H.get q = some (rdB s a sh)) (ha : a ≤ l.length) (hl : l.length ≤ 65536) (n : Int) (hn0 : 0 ≤ n) (hn1 : n ≤ 4) (m : Nat) (hm : 11 ≤ m) :
    ∃ H', ev Try.prog m 98 [.ptr q 0, .int .i64 n] H = some (.int .i64 (valP (takeS l a sh n).1), H') ∧ Kx q H H' ∧ H'.get q = some (rdB s (takeS l a sh n).2.1 (takeS l a sh n).2.2) ∧ (takeS l a sh n).2.1 ≤ l.length := by
  obtain ⟨m, rfl⟩ : ∃ k, m = k + 1 := ⟨m - 1, by omega⟩
  obtain ⟨r, H', k1, k2, k3, k4, k5⟩ := takeR_ev hs hK hqb hqn hq ha hl n hn0 (by omega) m (by omega)
  have hv := l01Value_ev k3.bs (Kp.refl H') (takeS_by hb _ _ _) (by have := (takeS_len l a sh n).1; omega) m (by omega)
  refine ⟨H', ?_, k2, k4, k5⟩
  rw [ev_eq Try.func98 ok98 m _ H (by simp [Try.f98])]
  simp [Try.f98, k1, hv]
def varS (l : List Int) (a : Nat) (sh : Bool) : Int × Nat × Bool :=
  if sh = true then (0, a, true) else if (getVarP l a).2.2 ≠ 0 then (0, a, true) else ((getVarP l a).1, (getVarP l a).2.1.toNat, false)
theorem getVarP_nn {l : List Int} (a : Nat) : 0 ≤ (getVarP l a).1 := by
  simp only [getVarP]
  split
  · simp
  · split
    · simp
    · simp only
      exact Int.emod_nonneg _ (Int.pow_ne_zero (by decide))
theorem gvN_cases {l : List Int} (hb : By l) (a : Nat) : gvN (l.getD a 0) ≤ 8 := by
  have hx : 0 ≤ l.getD a 0 ∧ l.getD a 0 < 256 := by
    rw [List.getD_eq_getElem?_getD]
    cases h : l[a]? with
    | none => simp
    | some x => exact hb x (List.mem_of_getElem? h)
  unfold gvN
  have : (l.getD a 0 / 64).toNat ≤ 3 := by omega
  have h2 : 2 ^ (l.getD a 0 / 64).toNat ≤ 2 ^ 3 := Nat.pow_le_pow_right (by omega) this
  omega
theorem getVarP_lt {l : List Int} (hb : By l) (a : Nat) : (getVarP l a).1 ≤ 4611686018427387904 := by
  simp only [getVarP]
  split
  · simp
  · split
    · simp
    · simp only
      have h1 := gvN_cases hb a
      generalize gvN (l.getD a 0) = g at *
      have hp : (0 : Int) < 2 ^ (8 * g - 2) := Int.pow_pos (by decide)
      have h2 := Int.emod_lt_of_pos (valP ((l.drop a).take g)) hp
      have h3 : 2 ^ (8 * g - 2) ≤ 2 ^ 62 := Nat.pow_le_pow_right (by omega) (by omega)
      have h4 := Int.ofNat_le.mpr h3
      rw [Int.natCast_pow, Int.natCast_pow] at h4
      have h5 : ((2 : Nat) : Int) ^ 62 = 4611686018427387904 := by decide
      have h6 : ((2 : Nat) : Int) = 2 := rfl
      rw [h5, h6] at h4
      omega
theorem varS_rng {l : List Int} (hb : By l) (a : Nat) (sh : Bool) : 0 ≤ (varS l a sh).1 ∧ (varS l a sh).1 ≤ 4611686018427387904 := by
  unfold varS
  split
  · simp
  · split
    · simp
    · exact ⟨getVarP_nn a, getVarP_lt hb a⟩
theorem var_ev {Hb H : AH} {q a : Nat} {s : AV} {l : List Int} {sh : Bool} (hs : Bs Hb s l) (hb : By l) (hK : Kp Hb H) (hqb : Hb.next ≤ q) (hqn : q < H.next) (hq : H.get q = some (rdB s a sh)) (ha : a ≤ l.length) (hl : l.length ≤ 65536) (m : Nat) (hm : 21 ≤ m) :
    ∃ H', ev Try.prog m 103 [.ptr q 0] H = some (.int .i64 (varS l a sh).1, H') ∧ Kx q H H' ∧ H'.next = H.next ∧ H'.get q = some (rdB s (varS l a sh).2.1 (varS l a sh).2.2) ∧ (varS l a sh).2.1 ≤ l.length := by
  obtain ⟨m, rfl⟩ : ∃ k, m = k + 1 := ⟨m - 1, by omega⟩
  rw [ev_eq Try.func103 ok103 m _ H (by simp [Try.f103])]
  have hq0 := hq
  unfold rdB at hq
  have hg := GetVarS_ev hs hK hb hl a ha m (by omega)
  cases sh with
  | false =>
    by_cases h2 : (getVarP l a).2.2 = 0
    · obtain ⟨e, h3, h4, h5⟩ := getVarP_end h2
      refine ⟨H.set q (rdB s e false), ?_, (Kx.refl q H).set _, rfl, ?_⟩
      · simp [Try.f103, ldVar, stVar, hq, hg, h2, h3, varS, rdB, hs.one]
      · simp [varS, h2, h3, h5]
    · refine ⟨H.set q (rdB s a true), ?_, (Kx.refl q H).set _, rfl, ?_⟩
      · simp [Try.f103, ldVar, stVar, hq, hg, h2, varS, rdB, hs.one]
      · simp [varS, h2, ha]
  | true =>
    refine ⟨H, ?_, Kx.refl q H, rfl, ?_⟩
    · simp [Try.f103, ldVar, hq, varS]
    · simp [varS, ha, hq0]
end Go.Ev

/- Numbers of changing length: their bytes, and these read again. -/
namespace Go.Ev
open Go Go.Proofs
set_option linter.unusedSimpArgs false
set_option linter.unusedVariables false

def digB : Nat → Int → List Int
  | 0, _ => []
  | n + 1, x => (x / 256 ^ n % 256) :: digB n x
def vL (v : Int) : Nat := if v < 64 then 1 else if v < 16384 then 2 else if v < 1073741824 then 4 else 8
def vM (n : Nat) : Int := if n = 1 then 0 else if n = 2 then 64 else if n = 4 then 128 else 192
def encV (v : Int) : List Int := (v / 256 ^ (vL v - 1) % 256 + vM (vL v)) :: digB (vL v - 1) v
theorem digB_len : ∀ n x, (digB n x).length = n
  | 0, x => rfl
  | n + 1, x => by simp [digB, digB_len n x]
theorem vL_cases (v : Int) : vL v = 1 ∨ vL v = 2 ∨ vL v = 4 ∨ vL v = 8 := by unfold vL; split; exact .inl rfl; split; exact .inr (.inl rfl); split; exact .inr (.inr (.inl rfl)); exact .inr (.inr (.inr rfl))
theorem encV_len (v : Int) : (encV v).length = vL v := by
  rcases vL_cases v with h | h | h | h <;> simp [encV, digB_len, h]
theorem digB_by : ∀ n x, By (digB n x)
  | 0, x => by simp [digB, By]
  | n + 1, x => by
    intro y hy
    simp only [digB, List.mem_cons] at hy
    rcases hy with rfl | hy
    · constructor <;> omega
    · exact digB_by n x y hy
theorem encV_by {v : Int} (h0 : 0 ≤ v) (h1 : v ≤ 4611686018427387903) : By (encV v) := by
  intro y hy
  simp only [encV, List.mem_cons] at hy
  rcases hy with rfl | hy
  · unfold vL vM
    split
    · simp; omega
    · split
      · simp; omega
      · split
        · simp; omega
        · simp; omega
  · exact digB_by _ _ y hy
/-- read at its place -/
theorem getVar_enc {pre post : List Int} {v : Int} (h0 : 0 ≤ v) (h1 : v ≤ 4611686018427387903) : getVarP (pre ++ (encV v ++ post)) pre.length = (v, ((pre.length + vL v : Nat) : Int), 0) := by
  have hl := encV_len v
  have hd : (pre ++ (encV v ++ post)).getD pre.length 0 = v / 256 ^ (vL v - 1) % 256 + vM (vL v) := by
    simp [encV]
  have gv : ∀ (t k : Int), t / 64 = k → gvN t = 2 ^ k.toNat := fun t k h => by unfold gvN; rw [h]
  have hg : gvN (v / 256 ^ (vL v - 1) % 256 + vM (vL v)) = vL v := by
    unfold vL
    by_cases c1 : v < 64
    · simp only [if_pos c1]; exact gv _ 0 (by simp [vM]; omega)
    · simp only [if_neg c1]
      by_cases c2 : v < 16384
      · simp only [if_pos c2]; exact gv _ 1 (by simp [vM]; omega)
      · simp only [if_neg c2]
        by_cases c3 : v < 1073741824
        · simp only [if_pos c3]; exact gv _ 2 (by simp [vM]; omega)
        · simp only [if_neg c3]; exact gv _ 3 (by simp [vM]; omega)
  have hdt : ((pre ++ (encV v ++ post)).drop pre.length).take (vL v) = encV v := by
    rw [List.drop_left, ← hl, List.take_left]
  have hv : valP (encV v) % 2 ^ (8 * vL v - 2) = v := by
    unfold encV vL vM
    split
    · simp [digB, valP]; omega
    · split
      · simp [digB, valP]; omega
      · split
        · simp [digB, valP]; omega
        · simp [digB, valP]; omega
  unfold getVarP
  rw [hd, hg, if_neg (by simp [encV]), if_neg (by simp [hl]; omega), hdt, hv]
  simp
end Go.Ev
