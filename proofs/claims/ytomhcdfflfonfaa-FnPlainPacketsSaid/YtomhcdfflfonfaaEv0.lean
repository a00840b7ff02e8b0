/- Lemmas of an evaluator of the given code and of what the functions answer; no condition of its own. -/
import Derived.Calls
import Derived.LoopN
import Derived.Orders
import Derived.Scope
import Derived.Below
import Derived.Deep.AppendSrc
import Derived.Deep.Upon
import Derived.Laws.StructEq
import Derived.Laws.BytesString
import Derived.Laws.MakeOwn
import Derived.Laws.Tables
import Derived.Tactics
/- An evaluator for the model's code over an abstract memory: values, memory, and how they stand for the machine's. -/
namespace Go.Ev
open Go Go.RowKit

/-- Abstract values: a block is a number of the abstract memory. -/
inductive AV where
  | bool (b : Bool)
  | int (k : IntKind) (n : Int)
  | str (s : ByteArray)
  | nilPtr
  | ptr (b o : Nat)
  | nilSlice
  | slice (b o n : Nat)
  | nilMap
  | map (b : Nat)
  | nilFunc
  | func (f : FuncId) (fs l : List AV)
  | nilIface
  | iface (t : TypeId) (v : AV)
  | agg (l : List AV)
  | tuple (l : List AV)
  deriving Inhabited

/-- What slot holds nothing yet. -/
def U : AV := .tuple []

/-- Where an abstract block lies: the machine's block, the first cell, the block's cells, cells an element. -/
structure Loc where
  c : Nat
  base : Nat
  n : Nat
  sz : Nat

abbrev Mu := Nat → Option Loc

mutual
def VR (μ : Mu) : AV → Value → Prop
  | .bool b, v => v = .bool b
  | .int k n, v => v = .int k n
  | .str s, v => v = .string s
  | .nilPtr, v => v = .pointer none
  | .ptr b o, v => ∃ L, μ b = some L ∧ v = .pointer (some ⟨L.c, L.base + o, none⟩)
  | .nilSlice, v => v = .slice none 0 0
  | .slice b o n, v => ∃ L cap a, μ b = some L ∧ v = .slice (some a) n cap ∧ n ≤ cap ∧ (cap ≠ 0 → a = ⟨L.c, L.base + o, none⟩ ∧ L.base + o + cap * L.sz ≤ L.n)
  | .nilMap, v => v = .map none
  | .map b, v => ∃ L, μ b = some L ∧ v = .map (some L.c)
  | .nilFunc, v => v = .nilFunc
  | .func f fs l, v => ∃ gs cs : Array Value, v = .func (.func f) gs cs ∧ VRs μ fs gs.toList ∧ VRs μ l cs.toList
  | .nilIface, v => v = .nilIface
  | .iface t a, v => ∃ u, v = .iface t u ∧ VR μ a u
  | .agg l, v => ∃ cs : Array Value, v = .agg cs ∧ VRs μ l cs.toList
  | .tuple l, v => ∃ cs : Array Value, v = .tuple cs ∧ VRs μ l cs.toList
def VRs (μ : Mu) : List AV → List Value → Prop
  | [], vs => vs = []
  | a :: l, vs => ∃ u us, vs = u :: us ∧ VR μ a u ∧ VRs μ l us
end

def Ext (μ μ' : Mu) : Prop := ∀ b L, μ b = some L → μ' b = some L
theorem Ext.refl (μ : Mu) : Ext μ μ := fun _ _ h => h
theorem Ext.trans {a b c : Mu} (h : Ext a b) (k : Ext b c) : Ext a c := fun x L hx => k x L (h x L hx)

mutual
theorem VR.mono {μ μ' : Mu} (hx : Ext μ μ') : ∀ (a : AV) (v : Value), VR μ a v → VR μ' a v
  | .bool _, _, h => h
  | .int _ _, _, h => h
  | .str _, _, h => h
  | .nilPtr, _, h => h
  | .ptr _ _, _, h => by
    simp only [VR] at h ⊢
    obtain ⟨L, h1, h2⟩ := h; exact ⟨L, hx _ _ h1, h2⟩
  | .nilSlice, _, h => h
  | .slice _ _ _, _, h => by
    simp only [VR] at h ⊢
    obtain ⟨L, cap, a, h1, h2⟩ := h; exact ⟨L, cap, a, hx _ _ h1, h2⟩
  | .nilMap, _, h => h
  | .map _, _, h => by
    simp only [VR] at h ⊢
    obtain ⟨L, h1, h2⟩ := h; exact ⟨L, hx _ _ h1, h2⟩
  | .nilFunc, _, h => h
  | .func _ fs l, _, h => by
    simp only [VR] at h ⊢
    obtain ⟨gs, cs, h1, h2, h3⟩ := h; exact ⟨gs, cs, h1, VRs.mono hx fs _ h2, VRs.mono hx l _ h3⟩
  | .nilIface, _, h => h
  | .iface _ a, _, h => by
    simp only [VR] at h ⊢
    obtain ⟨u, h1, h2⟩ := h; exact ⟨u, h1, VR.mono hx a _ h2⟩
  | .agg l, _, h => by
    simp only [VR] at h ⊢
    obtain ⟨cs, h1, h2⟩ := h; exact ⟨cs, h1, VRs.mono hx l _ h2⟩
  | .tuple l, _, h => by
    simp only [VR] at h ⊢
    obtain ⟨cs, h1, h2⟩ := h; exact ⟨cs, h1, VRs.mono hx l _ h2⟩
theorem VRs.mono {μ μ' : Mu} (hx : Ext μ μ') : ∀ (l : List AV) (vs : List Value), VRs μ l vs → VRs μ' l vs
  | [], _, h => h
  | a :: l, _, h => by
    simp only [VRs] at h ⊢
    obtain ⟨u, us, h1, h2, h3⟩ := h
    exact ⟨u, us, h1, VR.mono hx a _ h2, VRs.mono hx l _ h3⟩
end

theorem VRs.length {μ : Mu} : ∀ {l : List AV} {vs : List Value}, VRs μ l vs → l.length = vs.length
  | [], _, h => by simp only [VRs] at h; simp [h]
  | a :: l, _, h => by
    simp only [VRs] at h
    obtain ⟨u, us, rfl, _, h3⟩ := h
    simp [VRs.length h3]
theorem VRs.get {μ : Mu} : ∀ {l : List AV} {vs : List Value}, VRs μ l vs → ∀ (i : Nat) (a : AV), l[i]? = some a → ∃ v, vs[i]? = some v ∧ VR μ a v
  | [], _, _, i, a, ha => by simp at ha
  | x :: l, _, h, i, a, ha => by
    simp only [VRs] at h
    obtain ⟨u, us, rfl, h2, h3⟩ := h
    cases i with
    | zero => simp at ha; subst ha; exact ⟨u, rfl, h2⟩
    | succ i => simpa using VRs.get h3 i a (by simpa using ha)
theorem VRs.of_get {μ : Mu} : ∀ {l : List AV} {vs : List Value}, l.length = vs.length → (∀ (i : Nat) (a : AV) (v : Value), l[i]? = some a → vs[i]? = some v → VR μ a v) → VRs μ l vs
  | [], vs, hl, _ => by
    simp only [VRs]
    cases vs with
    | nil => rfl
    | cons => simp at hl
  | a :: l, [], hl, _ => by simp at hl
  | a :: l, u :: us, hl, h => by
    simp only [VRs]
    exact ⟨u, us, rfl, h 0 a u rfl rfl, VRs.of_get (by simpa using hl) (fun i x v hx hv => h (i + 1) x v (by simpa using hx) (by simpa using hv))⟩
theorem VRs.append {μ : Mu} : ∀ {l m : List AV} {vs us : List Value}, VRs μ l vs → VRs μ m us → VRs μ (l ++ m) (vs ++ us)
  | [], _, _, _, h, k => by simp only [VRs] at h; subst h; exact k
  | a :: l, m, _, us, h, k => by
    simp only [VRs] at h
    obtain ⟨u, us', rfl, h2, h3⟩ := h
    simp only [List.cons_append, VRs]
    exact ⟨u, us' ++ us, rfl, h2, VRs.append h3 k⟩
theorem VRs.drop {μ : Mu} : ∀ {l : List AV} {vs : List Value} (k : Nat), VRs μ l vs → VRs μ (l.drop k) (vs.drop k)
  | _, _, 0, h => h
  | [], _, k + 1, h => by simp only [VRs] at h; subst h; simp [VRs]
  | a :: l, _, k + 1, h => by
    simp only [VRs] at h
    obtain ⟨u, us, rfl, _, h3⟩ := h
    simpa using VRs.drop k h3
theorem VRs.take {μ : Mu} : ∀ {l : List AV} {vs : List Value} (k : Nat), VRs μ l vs → VRs μ (l.take k) (vs.take k)
  | _, _, 0, _ => by simp [VRs]
  | [], _, k + 1, h => by simp only [VRs] at h; subst h; simp [VRs]
  | a :: l, _, k + 1, h => by
    simp only [VRs] at h
    obtain ⟨u, us, rfl, h2, h3⟩ := h
    simp only [List.take_succ_cons, VRs]
    exact ⟨u, us.take k, rfl, h2, VRs.take k h3⟩
theorem VRs.set {μ : Mu} {l : List AV} {vs : List Value} (h : VRs μ l vs) (i : Nat) {a : AV} {v : Value} (ha : VR μ a v) : VRs μ (l.set i a) (vs.set i v) := by
  refine VRs.of_get (by simp [h.length]) fun j x u hx hu => ?_
  rw [List.getElem?_set] at hx hu
  split at hx
  · rename_i hij
    subst hij
    have hl := h.length
    simp only [if_true] at hu
    split at hx
    · rename_i hlt
      rw [if_pos (by omega)] at hu
      simp at hx hu; subst hx; subst hu; exact ha
    · simp at hx
  · rename_i hij
    rw [if_neg hij] at hu
    obtain ⟨w, hw, hv⟩ := h.get j x hx
    rw [hu] at hw; simp at hw; subst hw; exact hv
theorem VRs.replicate {μ : Mu} {a : AV} {v : Value} (h : VR μ a v) : ∀ n, VRs μ (List.replicate n a) (List.replicate n v)
  | 0 => by simp [VRs]
  | n + 1 => by simp only [List.replicate_succ, VRs]; exact ⟨v, _, rfl, h, VRs.replicate h n⟩

/-- A block of the abstract memory. -/
inductive Blk where
  | cells (e : TypeId) (ro : Bool) (xs : List AV)
  | map (l : List (AV × AV))
  | res

structure AH where
  get : Nat → Option Blk
  next : Nat

def AH.set (H : AH) (b : Nat) (x : Blk) : AH := { H with get := fun i => if i = b then some x else H.get i }
def AH.kill (H : AH) (b : Nat) : AH := { H with get := fun i => if i = b then none else H.get i }
def AH.push (H : AH) (x : Blk) : AH := { get := fun i => if i = H.next then some x else H.get i, next := H.next + 1 }

def AV.one : AV → Bool
  | .agg _ => false
  | .tuple _ => false
  | _ => true
def AV.cells : AV → List AV
  | .agg l => l
  | v => [v]
theorem VR.one {μ : Mu} {a : AV} {v : Value} (h : VR μ a v) (h1 : a.one = true) : v.oneCell' = true := by
  cases a <;> simp [AV.one] at h1 <;> simp only [VR] at h <;> (try subst h) <;> (try obtain ⟨_, _, rfl⟩ := h) <;> (try obtain ⟨_, _, _, _, rfl, _⟩ := h) <;> (try obtain ⟨_, _, rfl, _⟩ := h) <;> (try obtain ⟨_, rfl, _⟩ := h) <;> rfl
theorem VR.cells {μ : Mu} {a : AV} {v : Value} (h : VR μ a v) : VRs μ a.cells v.cells.toList := by
  have hs : ∀ (x : AV) (u : Value), VR μ x u → u.cells = #[u] → VRs μ [x] u.cells.toList := by
    intro x u hx hu; rw [hu]; simp only [VRs]; exact ⟨u, [], rfl, hx, rfl⟩
  cases a with
  | agg l => simp only [VR] at h; obtain ⟨cs, rfl, h2⟩ := h; exact h2
  | _ =>
    refine hs _ _ h ?_
    simp only [VR] at h
    (try subst h) <;> (try obtain ⟨_, _, rfl⟩ := h) <;> (try obtain ⟨_, _, _, _, rfl, _⟩ := h) <;> (try obtain ⟨_, _, rfl, _⟩ := h) <;> (try obtain ⟨_, rfl, _⟩ := h) <;> rfl

/-- The cells xs stand in the row cs from place base on. -/
def RowR (μ : Mu) (xs : List AV) (cs : Array Value) (base : Nat) : Prop :=
  xs.all AV.one = true ∧ base + xs.length ≤ cs.size ∧ ∀ (i : Nat) (a : AV), xs[i]? = some a → ∃ v, cs[base + i]? = some v ∧ VR μ a v

def Blk.rw : Blk → Bool
  | .cells _ ro _ => !ro
  | .map _ => true
  | .res => false
/-- The pairs l are a map's entries, in their order. -/
def MapR (μ : Mu) (l : List (AV × AV)) (es : Array MapEntry) : Prop :=
  VRs μ (l.map (·.1)) (es.toList.map (·.key)) ∧ VRs μ (l.map (·.2)) (es.toList.map (·.val))
def Thawed (fz : Nat × Nat) (n : Nat) : Prop := fz.1 = fz.2 ∨ n ≤ fz.1
theorem Thawed.at_ {fz : Nat × Nat} {n : Nat} (h : Thawed fz n) (i : Nat) (hi : i < n) : (decide (fz.1 ≤ i) && decide (i < fz.2)) = false := by
  rcases h with h | h
  · rw [h]; simp
  · simp; omega
theorem Thawed.zero (n : Nat) : Thawed (0, 0) n := .inl rfl
/-- How a block lies in the machine's memory. What may only be read lies below the memory in which the call began. -/
def BlkR (P : Program) (w0 w : World) (μ : Mu) (b : Nat) : Blk → Prop
  | .cells e false xs => ∃ L cs fz e', μ b = some L ∧ w.heap[L.c]? = some (.cells cs e' fz) ∧ L.n = cs.size ∧ RowR μ xs cs L.base ∧
    (Thawed fz cs.size ∧ w0.heap.size ≤ L.c) ∧ (P.info? e).map (·.size) = some L.sz
  | .cells e true xs => ∃ L, μ b = some L ∧ xs.all AV.one = true ∧ (P.info? e).map (·.size) = some L.sz ∧ L.base + xs.length ≤ L.n ∧
    ∀ (i : Nat) (a : AV), xs[i]? = some a → L.c < w0.heap.size ∧ ∃ v, w.cell? ⟨L.c, L.base + i, none⟩ = some v ∧ VR μ a v
  | .map l => ∃ L es clock, μ b = some L ∧ w.heap[L.c]? = some (.map es clock) ∧ MapR μ l es ∧ w0.heap.size ≤ L.c
  | .res => μ b = none

structure Rel (P : Program) (w0 : World) (H : AH) (μ : Mu) (w : World) : Prop where
  below : Below w0.heap.size w0 w
  fresh : ∀ b, H.next ≤ b → μ b = none
  dom : ∀ b x, H.get b = some x → b < H.next
  blk : ∀ b x, H.get b = some x → BlkR P w0 w μ b x
  sep : ∀ b x, H.get b = some x → x.rw = true → ∀ b' x', b' ≠ b → H.get b' = some x' → x'.rw = true → ∀ L L', μ b = some L → μ b' = some L' → L'.c ≠ L.c

theorem RowR.mono {μ μ' : Mu} (hx : Ext μ μ') {xs : List AV} {cs : Array Value} {base : Nat} (h : RowR μ xs cs base) : RowR μ' xs cs base :=
  ⟨h.1, h.2.1, fun i a ha => let ⟨v, h1, h2⟩ := h.2.2 i a ha; ⟨v, h1, VR.mono hx _ _ h2⟩⟩

theorem MapR.mono {μ μ' : Mu} (hx : Ext μ μ') {l : List (AV × AV)} {es : Array MapEntry} (h : MapR μ l es) : MapR μ' l es :=
  ⟨VRs.mono hx _ _ h.1, VRs.mono hx _ _ h.2⟩
theorem BlkR.mono {P : Program} {w0 w : World} {μ μ' : Mu} (hx : Ext μ μ') {b : Nat} {x : Blk} (hr : μ b = none → μ' b = none) (h : BlkR P w0 w μ b x) : BlkR P w0 w μ' b x := by
  cases x with
  | cells e ro xs =>
    cases ro with
    | false => obtain ⟨L, cs, fz, e', h1, h2, h3, h4, h5⟩ := h; exact ⟨L, cs, fz, e', hx _ _ h1, h2, h3, h4.mono hx, h5⟩
    | true => obtain ⟨L, h1, h2, h3, h4, h5⟩ := h; exact ⟨L, hx _ _ h1, h2, h3, h4, fun i a ha => let ⟨k1, v, k2, k3⟩ := h5 i a ha; ⟨k1, v, k2, VR.mono hx _ _ k3⟩⟩
  | map l => obtain ⟨L, es, ck, h1, h2, h3, h4⟩ := h; exact ⟨L, es, ck, hx _ _ h1, h2, h3.mono hx, h4⟩
  | res => exact hr h
theorem BlkR.loc {P : Program} {w0 w : World} {μ : Mu} {b : Nat} {x : Blk} (h : BlkR P w0 w μ b x) (hx : x ≠ .res) : ∃ L, μ b = some L ∧ (x.rw = true → w0.heap.size ≤ L.c ∧ ∃ o, w.heap[L.c]? = some o) := by
  cases x with
  | cells e ro xs =>
    cases ro with
    | false => obtain ⟨L, cs, fz, e', h1, h2, h3, h4, h5, h6⟩ := h; exact ⟨L, h1, fun _ => ⟨h5.2, _, h2⟩⟩
    | true => obtain ⟨L, h1, h2⟩ := h; exact ⟨L, h1, fun h => by simp [Blk.rw] at h⟩
  | map l => obtain ⟨L, es, ck, h1, h2, h3, h4⟩ := h; exact ⟨L, h1, fun _ => ⟨h4, _, h2⟩⟩
  | res => exact (hx rfl).elim
/-- A block stays as it lies where its row of the machine does. -/
theorem BlkR.keep {P : Program} {w0 w w' : World} {μ : Mu} {b : Nat} {x : Blk} (h : BlkR P w0 w μ b x) (hB : Below w0.heap.size w0 w) (hB' : Below w0.heap.size w0 w')
    (hk : ∀ L, x.rw = true → μ b = some L → w'.heap[L.c]? = w.heap[L.c]?) : BlkR P w0 w' μ b x := by
  cases x with
  | cells e ro xs =>
    cases ro with
    | false => obtain ⟨L, cs, fz, e', h1, h2, h3⟩ := h; exact ⟨L, cs, fz, e', h1, (hk L rfl h1).trans h2, h3⟩
    | true =>
      obtain ⟨L, h1, h2, h3, h4, h5⟩ := h
      refine ⟨L, h1, h2, h3, h4, fun i a ha => ?_⟩
      obtain ⟨k1, v, k2, k3⟩ := h5 i a ha
      refine ⟨k1, v, ?_, k3⟩
      rw [hB'.cell (p := ⟨L.c, L.base + i, none⟩) k1, ← hB.cell (p := ⟨L.c, L.base + i, none⟩) k1]; exact k2
  | map l => obtain ⟨L, es, ck, h1, h2, h3⟩ := h; exact ⟨L, es, ck, h1, (hk L rfl h1).trans h2, h3⟩
  | res => exact h

/-- slots -/
abbrev Tm := Nat → AV
def upd (τ : Tm) (d : Nat) (v : AV) : Tm := fun i => if i = d then v else τ i
def put (τ : Tm) (d : Option Nat) (v : AV) : Tm := match d with | some d => upd τ d v | none => τ
def TR (μ : Mu) (τ : Tm) (tmps : Array Value) : Prop := ∀ (i : Nat) (v : Value), tmps[i]? = some v → VR μ (τ i) v
theorem TR.mono {μ μ' : Mu} (hx : Ext μ μ') {τ : Tm} {t : Array Value} (h : TR μ τ t) : TR μ' τ t := fun i v hv => VR.mono hx _ _ (h i v hv)
theorem TR.put {μ : Mu} {τ : Tm} {a : Act} (h : TR μ τ a.tmps) (d : Option Nat) {x : AV} {v : Value} (hv : VR μ x v) : TR μ (put τ d x) (a.put d v).tmps := by
  intro i u hu
  cases d with
  | none => exact h i u hu
  | some d =>
    simp only [Ev.put, upd, Act.put] at hu ⊢
    rw [Array.getElem?_setIfInBounds] at hu
    split at hu
    · rename_i hdi
      subst hdi
      split at hu
      · simp at hu; subst hu; simpa using hv
      · simp at hu
    · rename_i hdi
      rw [if_neg (fun e => hdi e.symm)]
      exact h i u hu
theorem put_size (a : Act) (d : Option Nat) (v : Value) : (a.put d v).tmps.size = a.tmps.size := by
  cases d <;> simp [Act.put]
theorem put_defers (a : Act) (d : Option Nat) (v : Value) : (a.put d v).defers = a.defers := by
  cases d <;> simp [Act.put]

/-- constants -/
def cvS : Value → Option AV
  | .bool b => some (.bool b)
  | .int k n => some (.int k n)
  | .string s => some (.str s)
  | .pointer none => some .nilPtr
  | .slice none 0 0 => some .nilSlice
  | .map none => some .nilMap
  | .nilFunc => some .nilFunc
  | .nilIface => some .nilIface
  | _ => none
def cvL : List Value → Option (List AV)
  | [] => some []
  | v :: l => match cvS v, cvL l with | some a, some r => some (a :: r) | _, _ => none
def cv : Value → Option AV
  | .agg cs => (cvL cs.toList).map .agg
  | .tuple cs => if cs.toList.isEmpty then some U else none
  | v => cvS v
theorem cvS_sound {μ : Mu} {v : Value} {a : AV} (h : cvS v = some a) : VR μ a v := by
  unfold cvS at h
  split at h <;> simp at h <;> subst h <;> simp [VR]
theorem cvL_sound {μ : Mu} : ∀ {vs : List Value} {l : List AV}, cvL vs = some l → VRs μ l vs
  | [], l, h => by simp [cvL] at h; subst h; simp [VRs]
  | v :: vs, l, h => by
    simp only [cvL] at h
    split at h
    · rename_i a r ha hr
      simp at h; subst h
      simp only [VRs]
      exact ⟨v, vs, rfl, cvS_sound ha, cvL_sound hr⟩
    · simp at h
theorem cv_sound {μ : Mu} {v : Value} {a : AV} (h : cv v = some a) : VR μ a v := by
  unfold cv at h
  split at h
  · rename_i cs
    simp only [Option.map_eq_some_iff] at h
    obtain ⟨l, hl, rfl⟩ := h
    simp only [VR]; exact ⟨cs, rfl, cvL_sound hl⟩
  · rename_i cs
    split at h
    · rename_i he
      simp at h; subst h
      simp only [U, VR]; exact ⟨cs, rfl, by simp only [VRs]; simpa using he⟩
    · simp at h
  · exact cvS_sound h

def opnd (τ : Tm) : Operand → Option AV
  | .tmp t => some (τ t)
  | .const v => cv v
  | .func f => some (.func f [] [])
  | .global _ => none
def okO (n : Nat) : Operand → Bool
  | .tmp t => decide (t < n)
  | _ => true
theorem opnd_sound {μ : Mu} {τ : Tm} {a : Act} (h : TR μ τ a.tmps) {x : Operand} (hx : okO a.tmps.size x = true) {v : AV} (hv : opnd τ x = some v) : VR μ v (a.eval x) := by
  cases x with
  | tmp t =>
    simp [okO] at hx
    simp [opnd] at hv
    subst hv
    have : a.eval (.tmp t) = a.tmps[t] := by simp [Act.eval, hx, Array.getD]
    rw [this]
    exact h t _ (by simp [hx])
  | const c => exact cv_sound hv
  | func f => simp [opnd] at hv; subst hv; simp [VR, Act.eval, VRs]
  | global g => simp [opnd] at hv

end Go.Ev

/- The evaluator's memory: what a load, a store, a new block and an append do, and that the machine's memory follows. -/
namespace Go.Ev
open Go Go.RowKit

theorem AH.set_get (H : AH) (b : Nat) (x : Blk) (i : Nat) : (H.set b x).get i = if i = b then some x else H.get i := rfl
theorem AH.kill_get (H : AH) (b i : Nat) : (H.kill b).get i = if i = b then none else H.get i := rfl
theorem AH.push_get (H : AH) (x : Blk) (i : Nat) : (H.push x).get i = if i = H.next then some x else H.get i := rfl
theorem AH.set_next (H : AH) (b : Nat) (x : Blk) : (H.set b x).next = H.next := rfl
theorem AH.kill_next (H : AH) (b : Nat) : (H.kill b).next = H.next := rfl
theorem AH.push_next (H : AH) (x : Blk) : (H.push x).next = H.next + 1 := rfl
theorem AH.set_set (H : AH) (b : Nat) (x y : Blk) : (H.set b x).set b y = H.set b y := by
  unfold AH.set; congr 1; funext i; by_cases h : i = b <;> simp [h]
theorem AH.set_same (H : AH) (b : Nat) (x : Blk) (h : H.get b = some x) : H.set b x = H := by
  cases H with
  | mk g n =>
    unfold AH.set; congr 1; funext i
    by_cases hi : i = b
    · subst hi; simpa using h.symm
    · simp [hi]

theorem heap_set (w : World) (c o : Nat) (v : Value) {cs : Array Value} {e : TypeId} {fz : Nat × Nat} (h : w.heap[c]? = some (.cells cs e fz)) :
    (w.setCell ⟨c, o, none⟩ v).heap[c]? = some (.cells (cs.setIfInBounds o v) e fz) := by
  simp [World.setCell, Array.getElem?_modify, h]
theorem heap_set_ne (w : World) (c o : Nat) (v : Value) {k : Nat} (h : k ≠ c) : (w.setCell ⟨c, o, none⟩ v).heap[k]? = w.heap[k]? :=
  Below.heap_setCell w ⟨c, o, none⟩ v k h
theorem cell_of (w : World) (c o : Nat) {cs : Array Value} {e : TypeId} {fz : Nat × Nat} (h : w.heap[c]? = some (.cells cs e fz)) : w.cell? ⟨c, o, none⟩ = cs[o]? := by
  simp [World.cell?, h]
theorem frozen_of (w : World) (c o : Nat) {cs : Array Value} {e : TypeId} {fz : Nat × Nat} (h : w.heap[c]? = some (.cells cs e fz)) (hf : Thawed fz cs.size) (ho : o < cs.size) : w.frozen? ⟨c, o, none⟩ = false := by
  have := hf.at_ o ho
  obtain ⟨lo, hi⟩ := fz
  simpa [World.frozen?, h] using this
theorem heap_alloc_new (w : World) (o : Obj) : (w.alloc o).heap[w.heap.size]? = some o := by unfold World.alloc; simp
theorem heap_alloc_old (w : World) (o : Obj) {k : Nat} (h : k < w.heap.size) : (w.alloc o).heap[k]? = w.heap[k]? := Below.heap_alloc w o k h
theorem lt_of_heap {w : World} {c : Nat} {o : Obj} (h : w.heap[c]? = some o) : c < w.heap.size := by
  rcases Nat.lt_or_ge c w.heap.size with h' | h'
  · exact h'
  · rw [Array.getElem?_eq_none h'] at h; simp at h

section
variable {P : Program} {w0 : World} {H : AH} {μ : Mu} {w : World}

theorem Rel.drew (h : Rel P w0 H μ w) : Rel P w0 H μ w.drew := ⟨h.below.drew, h.fresh, h.dom, h.blk, h.sep⟩
theorem Rel.drewN (h : Rel P w0 H μ w) (n : Nat) : Rel P w0 H μ { w with drawn := n } :=
  ⟨⟨h.below.os, h.below.tape, h.below.output, h.below.size, h.below.block⟩, h.fresh, h.dom, h.blk, h.sep⟩
theorem Rel.mapped (h : Rel P w0 H μ w) {b : Nat} {x : Blk} (hb : H.get b = some x) (hx : x ≠ .res) : ∃ L, μ b = some L :=
  let ⟨L, h1, _⟩ := (h.blk b x hb).loc hx; ⟨L, h1⟩
theorem rw_res {x : Blk} (h : x.rw = true) : x ≠ .res := fun e => by subst e; simp [Blk.rw] at h

/-- A block that may be written is changed, in place. -/
theorem Rel.change (h : Rel P w0 H μ w) {b : Nat} {x y : Blk} (hb : H.get b = some x) (hx : x.rw = true) {L : Loc} (hL : μ b = some L) {w' : World}
    (hB : Below w0.heap.size w0 w') (hk : ∀ k, k ≠ L.c → k < w.heap.size → w'.heap[k]? = w.heap[k]?) (hy : BlkR P w0 w' μ b y) : Rel P w0 (H.set b y) μ w' := by
  refine ⟨hB, h.fresh, ?_, ?_, ?_⟩
  · intro b' z hz
    rw [AH.set_get] at hz
    split at hz
    · rename_i hbb; subst hbb; exact h.dom _ _ hb
    · exact h.dom _ _ hz
  · intro b' z hz
    rw [AH.set_get] at hz
    split at hz
    · rename_i hbb; subst hbb; simp only [Option.some.injEq] at hz; subst hz; exact hy
    · rename_i hbb
      have hz' := h.blk b' z hz
      refine hz'.keep h.below hB fun L3 hrw h3' => ?_
      obtain ⟨L2, h2, h3⟩ := hz'.loc (rw_res hrw)
      have hne : L3.c ≠ L.c := h.sep b x hb hx b' z hbb hz hrw L L3 hL h3'
      rw [h2] at h3'; simp only [Option.some.injEq] at h3'; subst h3'
      obtain ⟨_, o, ho⟩ := h3 hrw
      exact hk _ hne (lt_of_heap ho)
  · intro b1 x1 hb1 hx1 b2 x2 hne hb2 hx2 L1 L2 hL1 hL2
    rw [AH.set_get] at hb1 hb2
    by_cases e1 : b1 = b
    · subst e1
      rw [if_neg hne] at hb2
      exact h.sep b1 x hb hx b2 x2 hne hb2 hx2 L1 L2 hL1 hL2
    · rw [if_neg e1] at hb1
      by_cases e2 : b2 = b
      · subst e2
        exact h.sep b1 x1 hb1 hx1 b2 x hne hb hx L1 L2 hL1 hL2
      · rw [if_neg e2] at hb2
        exact h.sep b1 x1 hb1 hx1 b2 x2 hne hb2 hx2 L1 L2 hL1 hL2

/-- One cell is stored. -/
theorem Rel.set (h : Rel P w0 H μ w) {b : Nat} {e : TypeId} {xs : List AV} (hb : H.get b = some (.cells e false xs)) {L : Loc} (hL : μ b = some L)
    {o : Nat} (ho : o < xs.length) {a : AV} {v : Value} (hv : VR μ a v) (h1 : a.one = true) :
    Rel P w0 (H.set b (.cells e false (xs.set o a))) μ (w.setCell ⟨L.c, L.base + o, none⟩ v) := by
  obtain ⟨L', cs, fz, e', hL', hheap, hn, hrow, ⟨hfz, hge⟩, hsz⟩ := h.blk b _ hb
  rw [hL] at hL'; simp only [Option.some.injEq] at hL'; subst hL'
  refine h.change hb rfl hL (h.below.setCell (p := ⟨L.c, L.base + o, none⟩) hge v) (fun k hk _ => heap_set_ne w _ _ _ hk) ?_
  refine ⟨L, _, fz, e', hL, heap_set w L.c (L.base + o) v hheap, by simpa using hn, ⟨?_, ?_, ?_⟩, ⟨by simpa using hfz, hge⟩, hsz⟩
  · have hall := hrow.1
    rw [List.all_eq_true] at hall ⊢
    intro x hx
    rcases List.mem_or_eq_of_mem_set hx with hx | hx
    · exact hall x hx
    · subst hx; exact h1
  · simpa using hrow.2.1
  · intro i x hx
    rw [List.getElem?_set] at hx
    have hbd := hrow.2.1
    split at hx
    · rename_i hoi
      subst hoi
      simp at hx; subst hx
      exact ⟨v, by rw [Array.getElem?_setIfInBounds]; simp; omega, hv⟩
    · rename_i hoi
      obtain ⟨u, hu1, hu2⟩ := hrow.2.2 i x hx
      exact ⟨u, by rw [Array.getElem?_setIfInBounds, if_neg (by omega)]; exact hu1, hu2⟩

def spl (xs : List AV) (o : Nat) : List AV → List AV
  | [] => xs
  | y :: ys => spl (xs.set o y) (o + 1) ys
theorem spl_length : ∀ (ys : List AV) (xs : List AV) (o : Nat), (spl xs o ys).length = xs.length
  | [], _, _ => rfl
  | y :: ys, xs, o => by simp [spl, spl_length ys]

/-- Several cells are stored. -/
theorem Rel.sets : ∀ (ys : List AV) (vs : List Value) {H : AH} {w : World} (_ : Rel P w0 H μ w) {b : Nat} {e : TypeId} {xs : List AV} (_ : H.get b = some (.cells e false xs)) {L : Loc} (_ : μ b = some L)
    {o : Nat} (_ : o + ys.length ≤ xs.length) (_ : VRs μ ys vs) (_ : ys.all AV.one = true),
    Rel P w0 (H.set b (.cells e false (spl xs o ys))) μ (w.setCells L.c (L.base + o) vs)
  | [], vs, H, w, h, b, e, xs, hb, L, hL, o, ho, hv, h1 => by
    simp only [VRs] at hv; subst hv
    simp only [spl, World.setCells]
    rw [AH.set_same H b _ hb]; exact h
  | y :: ys, vs, H, w, h, b, e, xs, hb, L, hL, o, ho, hv, h1 => by
    simp only [VRs] at hv
    obtain ⟨u, us, rfl, hu, hus⟩ := hv
    simp only [List.length_cons] at ho
    simp only [List.all_cons, Bool.and_eq_true] at h1
    have hr := h.set hb hL (o := o) (by omega) hu h1.1
    have := Rel.sets ys us hr (b := b) (e := e) (xs := xs.set o y) (by simp [AH.set_get]) hL (o := o + 1) (by simp; omega) hus h1.2
    rw [AH.set_set] at this
    simpa only [spl, World.setCells, Nat.add_assoc] using this

/-- A new block. -/
def muPush (μ : Mu) (b : Nat) (L : Loc) : Mu := fun i => if i = b then some L else μ i
theorem Rel.ext (h : Rel P w0 H μ w) (L : Loc) : Ext μ (muPush μ H.next L) := by
  intro b L' hb
  unfold muPush
  rw [if_neg]
  · exact hb
  · intro e; subst e
    rw [h.fresh _ (Nat.le_refl _)] at hb; simp at hb
theorem muPush_self (μ : Mu) (b : Nat) (L : Loc) : muPush μ b L b = some L := by simp [muPush]

/-- A new name for a block y of the machine's memory; nothing that is named lies in that block, and what is named stays. -/
theorem Rel.name (h : Rel P w0 H μ w) {y : Blk} {L : Loc} {w' : World} (hB : Below w0.heap.size w0 w') (hk : ∀ k, k ≠ L.c → k < w.heap.size → w'.heap[k]? = w.heap[k]?)
    (hfree : ∀ b x L', H.get b = some x → x.rw = true → μ b = some L' → L'.c ≠ L.c) (hy : BlkR P w0 w' (muPush μ H.next L) H.next y) :
    Rel P w0 (H.push y) (muPush μ H.next L) w' := by
  have hx := h.ext L
  refine ⟨hB, ?_, ?_, ?_, ?_⟩
  · intro b hb
    simp only [AH.push_next] at hb
    unfold muPush
    rw [if_neg (by omega)]
    exact h.fresh _ (by omega)
  · intro b x hb
    rw [AH.push_get] at hb
    simp only [AH.push_next]
    split at hb
    · omega
    · have := h.dom _ _ hb; omega
  · intro b' z hb
    rw [AH.push_get] at hb
    split at hb
    · rename_i hbb
      subst hbb
      simp only [Option.some.injEq] at hb; subst hb; exact hy
    · rename_i hbb
      have hz' := h.blk b' z hb
      refine (hz'.keep h.below hB fun L3 hrw h3' => ?_).mono hx (fun hn => by unfold muPush; rw [if_neg hbb]; exact hn)
      obtain ⟨L2, h2, h3⟩ := hz'.loc (rw_res hrw)
      have hne := hfree b' z L3 hb hrw h3'
      rw [h2] at h3'; simp only [Option.some.injEq] at h3'; subst h3'
      obtain ⟨_, o, ho⟩ := h3 hrw
      exact hk _ hne (lt_of_heap ho)
  · intro b1 x1 hb1 hx1 b2 x2 hne hb2 hx2 L1 L2 hL1 hL2
    rw [AH.push_get] at hb1 hb2
    unfold muPush at hL1 hL2
    by_cases e1 : b1 = H.next
    · subst e1
      rw [if_neg hne] at hb2 hL2
      rw [if_pos rfl] at hL1
      simp only [Option.some.injEq] at hL1; subst hL1
      exact hfree b2 x2 L2 hb2 hx2 hL2
    · rw [if_neg e1] at hb1 hL1
      by_cases e2 : b2 = H.next
      · subst e2
        rw [if_pos rfl] at hL2
        simp only [Option.some.injEq] at hL2; subst hL2
        exact (hfree b1 x1 L1 hb1 hx1 hL1).symm
      · rw [if_neg e2] at hb2 hL2
        exact h.sep b1 x1 hb1 hx1 b2 x2 hne hb2 hx2 L1 L2 hL1 hL2

theorem Rel.lt (h : Rel P w0 H μ w) {b : Nat} {x : Blk} {L : Loc} (hb : H.get b = some x) (hx : x.rw = true) (hL : μ b = some L) : L.c < w.heap.size := by
  obtain ⟨L2, h2, h3⟩ := (h.blk b x hb).loc (rw_res hx)
  rw [hL] at h2; simp only [Option.some.injEq] at h2; subst h2
  obtain ⟨_, o, ho⟩ := h3 hx
  exact lt_of_heap ho

theorem Rel.push (h : Rel P w0 H μ w) {e : TypeId} {xs : List AV} {cs : Array Value} {sz : Nat} (hrow : RowR μ xs cs 0) (hsz : (P.info? e).map (·.size) = some sz) :
    Rel P w0 (H.push (.cells e false xs)) (muPush μ H.next ⟨w.heap.size, 0, cs.size, sz⟩) (w.alloc (.cells cs e)) := by
  refine h.name (L := ⟨w.heap.size, 0, cs.size, sz⟩) (h.below.alloc h.below.size _) (fun k _ hk => heap_alloc_old w _ hk) (fun b x L' hb hx hL' => Nat.ne_of_lt (h.lt hb hx hL')) ?_
  exact ⟨_, cs, (0, 0), e, muPush_self _ _ _, heap_alloc_new w _, rfl, by simpa using hrow.mono (h.ext _), ⟨Thawed.zero _, h.below.size⟩, hsz⟩

theorem Rel.pushMap (h : Rel P w0 H μ w) (clock : Nat) :
    Rel P w0 (H.push (.map [])) (muPush μ H.next ⟨w.heap.size, 0, 0, 0⟩) (w.alloc (.map #[] clock)) := by
  refine h.name (L := ⟨w.heap.size, 0, 0, 0⟩) (h.below.alloc h.below.size _) (fun k _ hk => heap_alloc_old w _ hk) (fun b x L' hb hx hL' => Nat.ne_of_lt (h.lt hb hx hL')) ?_
  exact ⟨_, #[], clock, muPush_self _ _ _, heap_alloc_new w _, by simp [MapR, VRs], h.below.size⟩

theorem Rel.kill (h : Rel P w0 H μ w) (b : Nat) : Rel P w0 (H.kill b) μ w := by
  have hold : ∀ b' x, (H.kill b).get b' = some x → H.get b' = some x := by
    intro b' x hx; rw [AH.kill_get] at hx; split at hx
    · simp at hx
    · exact hx
  exact ⟨h.below, h.fresh, fun b' x hx => h.dom _ _ (hold _ _ hx), fun b' x hx => h.blk _ _ (hold _ _ hx),
    fun b1 x1 h1 hx1 b2 x2 hne h2 hx2 => h.sep b1 x1 (hold _ _ h1) hx1 b2 x2 hne (hold _ _ h2) hx2⟩
end
end Go.Ev

/- The evaluator's operations, and that the machine's do the same. -/
namespace Go.Ev
open Go Go.RowKit
set_option linter.unusedSimpArgs false
set_option linter.unusedVariables false

section
variable (P : Program)
def sizeT (t : TypeId) : Option Nat := (P.info? t).map (·.size)
def bytesT (t : TypeId) : Option Nat := (P.info? t).map (·.bytes)
def zeroT (t : TypeId) : Option (List AV) := (P.info? t).bind fun i => i.zero.bind fun z => cvL z.cells.toList
def zeroV (t : TypeId) : Option AV := (P.info? t).bind fun i => i.zero.bind cv
def aggD : TypeDesc → Bool
  | .struct _ => true
  | .array _ _ => true
  | _ => false
def aggT (t : TypeId) : Option Bool := (P.underlying t).map aggD
def fieldT (s f : Nat) : Option (Nat × TypeId) := match P.underlying s with
  | some (.struct fs) => (fs[f]?).map fun x => (x.offset, x.type)
  | _ => none

/-- memory: a variable is read -/
def ldVar (t : TypeId) (b o : Nat) (H : AH) : Option AV := match H.get b with
  | some (.cells _ _ xs) => match aggT P t with
    | some true => match sizeT P t with
      | some n => if o + n ≤ xs.length then some (.agg ((xs.drop o).take n)) else none
      | none => none
    | some false => xs[o]?
    | none => none
  | _ => none
/-- memory: a variable is written -/
def stVar (t : TypeId) (b o : Nat) (v : AV) (H : AH) : Option AH := match H.get b with
  | some (.cells e false xs) =>
    if sizeT P t = some v.cells.length ∧ v.cells.all AV.one = true ∧ o + v.cells.length ≤ xs.length then some (H.set b (.cells e false (spl xs o v.cells))) else none
  | _ => none
end

section
variable {P : Program} {w0 : World} {H : AH} {μ : Mu} {w : World}

theorem run_isAgg {t : TypeId} {q : Bool} (h : aggT P t = some q) (w : World) : (isAgg t).run P w = .ok q w := by
  unfold aggT at h
  simp only [Option.map_eq_some_iff] at h
  obtain ⟨d, hd, rfl⟩ := h
  unfold isAgg
  rw [Sem.run_bind, run_underlying hd]
  cases d <;> rfl
theorem run_sizeOf {t : TypeId} {n : Nat} (h : sizeT P t = some n) (w : World) : (sizeOf t).run P w = .ok n w := by
  unfold sizeT at h
  simp only [Option.map_eq_some_iff] at h
  obtain ⟨i, hi, rfl⟩ := h
  simp [sizeOf, typeInfo, hi]
theorem cell_in (h : Rel P w0 H μ w) {b : Nat} {e : TypeId} {ro : Bool} {xs : List AV} (hb : H.get b = some (.cells e ro xs)) {L : Loc} (hL : μ b = some L) {o : Nat} {a : AV} (ha : xs[o]? = some a) :
    ∃ v, w.cell? ⟨L.c, L.base + o, none⟩ = some v ∧ VR μ a v := by
  have hblk := h.blk b _ hb
  cases ro with
  | false =>
    obtain ⟨L', cs, fz, e', hL', hheap, hn, hrow, _⟩ := hblk
    rw [hL] at hL'; simp only [Option.some.injEq] at hL'; subst hL'
    obtain ⟨v, h1, h2⟩ := hrow.2.2 o a ha
    exact ⟨v, by rw [cell_of w _ _ hheap]; exact h1, h2⟩
  | true =>
    obtain ⟨L', hL', h1, h2, h3, h4⟩ := hblk
    rw [hL] at hL'; simp only [Option.some.injEq] at hL'; subst hL'
    exact (h4 o a ha).2
theorem Rel.one (h : Rel P w0 H μ w) {b : Nat} {e : TypeId} {ro : Bool} {xs : List AV} (hb : H.get b = some (.cells e ro xs)) : xs.all AV.one = true := by
  have hblk := h.blk b _ hb
  cases ro with
  | false => obtain ⟨L', cs, fz, e', hL', hheap, hn, hrow, _⟩ := hblk; exact hrow.1
  | true => obtain ⟨L', hL', h1, _⟩ := hblk; exact h1
theorem Rel.sz (h : Rel P w0 H μ w) {b : Nat} {e : TypeId} {ro : Bool} {xs : List AV} (hb : H.get b = some (.cells e ro xs)) {L : Loc} (hL : μ b = some L) : (P.info? e).map (·.size) = some L.sz ∧ L.base + xs.length ≤ L.n := by
  have hblk := h.blk b _ hb
  cases ro with
  | false =>
    obtain ⟨L', cs, fz, e', hL', hheap, hn, hrow, _, h6⟩ := hblk
    rw [hL] at hL'; simp only [Option.some.injEq] at hL'; subst hL'
    exact ⟨h6, by rw [hn]; exact hrow.2.1⟩
  | true =>
    obtain ⟨L', hL', h1, h2, h3, _⟩ := hblk
    rw [hL] at hL'; simp only [Option.some.injEq] at hL'; subst hL'
    exact ⟨h2, h3⟩
theorem row_in (h : Rel P w0 H μ w) {b : Nat} {e : TypeId} {ro : Bool} {xs : List AV} (hb : H.get b = some (.cells e ro xs)) {L : Loc} (hL : μ b = some L) (o n : Nat) (hn : o + n ≤ xs.length) :
    ∃ vs : List Value, vs.length = n ∧ (∀ j v, vs[j]? = some v → w.cell? ⟨L.c, L.base + o + j, none⟩ = some v) ∧ VRs μ ((xs.drop o).take n) vs := by
  refine ⟨(List.range n).map (fun j => (w.cell? ⟨L.c, L.base + o + j, none⟩).getD undef), by simp, ?_, ?_⟩
  · intro j v hj
    rw [List.getElem?_map] at hj
    cases hr : (List.range n)[j]? with
    | none => rw [hr] at hj; simp at hj
    | some q =>
      rw [hr] at hj
      have hq : j < n := by
        rcases Nat.lt_or_ge j n with hh | hh
        · exact hh
        · rw [List.getElem?_eq_none (by simpa using hh)] at hr; simp at hr
      rw [List.getElem?_range hq] at hr
      simp only [Option.some.injEq] at hr; subst hr
      have hlt : o + j < xs.length := by omega
      obtain ⟨u, h1, h2⟩ := cell_in h hb hL (List.getElem?_eq_getElem hlt)
      rw [← Nat.add_assoc] at h1
      simp only [Option.map_some, h1, Option.getD_some, Option.some.injEq] at hj
      rw [h1, hj]
  · refine VRs.of_get (by simp; omega) fun j a v ha hv => ?_
    rw [List.getElem?_take] at ha
    split at ha
    · rename_i hjn
      rw [List.getElem?_drop] at ha
      obtain ⟨u, h1, h2⟩ := cell_in h hb hL ha
      rw [← Nat.add_assoc] at h1
      rw [List.getElem?_map, List.getElem?_range hjn] at hv
      simp only [Option.map_some, h1, Option.getD_some, Option.some.injEq] at hv
      subst hv; exact h2
    · simp at ha
theorem ldVar_sound (h : Rel P w0 H μ w) {t : TypeId} {b o : Nat} {a : AV} (hl : ldVar P t b o H = some a) {L : Loc} (hL : μ b = some L) :
    ∃ v, (loadVar t ⟨L.c, L.base + o, none⟩).run P w = .ok v w ∧ VR μ a v := by
  unfold ldVar at hl
  split at hl
  · rename_i e ro xs hb
    split at hl
    · rename_i hq
      split at hl
      · rename_i n hn
        split at hl
        · rename_i hle
          simp only [Option.some.injEq] at hl
          subst hl
          obtain ⟨vs, h1, h2, h3⟩ := row_in h hb hL o n hle
          refine ⟨.agg vs.toArray, ?_, by simp only [VR]; exact ⟨_, rfl, by simpa using h3⟩⟩
          have := run_loadCells_list (P := P) w ⟨L.c, L.base + o, none⟩ vs (fun j v hj => by rw [Addr.add_lit]; exact h2 j v hj)
          rw [h1] at this
          simp [loadVar, run_isAgg hq, run_sizeOf hn, this]
        · simp at hl
      · simp at hl
    · rename_i hq
      obtain ⟨v, h1, h2⟩ := cell_in h hb hL hl
      exact ⟨v, by simp [loadVar, run_isAgg hq, h1], h2⟩
    · simp at hl
  · simp at hl
theorem stVar_sound (h : Rel P w0 H μ w) {t : TypeId} {b o : Nat} {a : AV} {H' : AH} (hs : stVar P t b o a H = some H') {L : Loc} (hL : μ b = some L) {v : Value} (hv : VR μ a v) :
    ∃ w', (storeVar t ⟨L.c, L.base + o, none⟩ v).run P w = .ok () w' ∧ Rel P w0 H' μ w' := by
  unfold stVar at hs
  split at hs
  · rename_i e xs hb
    split at hs
    · rename_i hc
      obtain ⟨hc1, hc2, hc3⟩ := hc
      simp only [Option.some.injEq] at hs
      subst hs
      have hvs := hv.cells
      have hlen := hvs.length
      obtain ⟨L', cs, fz, e', hL', hheap, hn, hrow, ⟨hfz, hge⟩, hsz⟩ := h.blk b _ hb
      rw [hL] at hL'; simp only [Option.some.injEq] at hL'; subst hL'
      have hbd := hrow.2.1
      have h1 : ∀ u ∈ v.cells.toList, u.oneCell' = true := by
        intro u hu
        obtain ⟨i, hi, rfl⟩ := List.mem_iff_getElem.1 hu
        have hi' : i < a.cells.length := by omega
        obtain ⟨u', hu', hr⟩ := hvs.get i a.cells[i] (by simp [hi'])
        rw [List.getElem?_eq_getElem hi] at hu'; simp at hu'; subst hu'
        exact hr.one (List.all_eq_true.1 hc2 _ (List.getElem_mem hi'))
      have hst := run_storeCells_cells (P := P) L.c (L.base + o) v.cells.toList 0 w
        (fun j hj => by rw [cell_of w _ _ hheap]; simp at hj ⊢; simp at hlen; omega)
        (fun j hj => frozen_of w _ _ hheap hfz (by simp at hj; simp at hlen; omega)) h1
      refine ⟨_, ?_, Rel.sets a.cells v.cells.toList h hb hL hc3 hvs hc2⟩
      have hsz' : v.cells.size = a.cells.length := by simpa using hlen.symm
      simp only [Nat.add_zero] at hst
      simp [storeVar, run_sizeOf hc1, hsz', hst]
    · simp at hs
  · simp at hs
end
end Go.Ev

/- The evaluator's operations (definitions). -/
namespace Go.Ev
open Go Go.RowKit
set_option linter.unusedSimpArgs false
set_option linter.unusedVariables false

def intA (op : BinOp) (k : IntKind) (a b : Int) : Option AV :=
  match op with
  | .add => some (.int k (k.wrap (a + b)))
  | .sub => some (.int k (k.wrap (a - b)))
  | .mul => some (.int k (k.wrap (a * b)))
  | .quo => if b = 0 then none else some (.int k (k.wrap (a.tdiv b)))
  | .rem => if b = 0 then none else some (.int k (a.tmod b))
  | .and => some (.int k (bits .and k a b))
  | .or => some (.int k (bits .or k a b))
  | .xor => some (.int k (bits .xor k a b))
  | .andNot => some (.int k (bits .andNot k a b))
  | .eql => some (.bool (a == b))
  | .neq => some (.bool (a != b))
  | .lss => some (.bool (decide (a < b)))
  | .leq => some (.bool (decide (a ≤ b)))
  | .gtr => some (.bool (decide (a > b)))
  | .geq => some (.bool (decide (a ≥ b)))
  | _ => none
def shiftA (op : BinOp) (k : IntKind) (x y : Int) : Option AV :=
  if y < 0 then none else
  match op with
  | .shl => some (.int k (k.wrap (x * 2 ^ (min y.toNat k.bits))))
  | .shr => some (.int k (x.fdiv (2 ^ (min y.toNat k.bits))))
  | _ => none
def strA (op : BinOp) (x y : ByteArray) : Option AV :=
  match op with
  | .add => if x.size + y.size ≤ 4611686018427387904 then some (.str (x ++ y)) else none
  | .eql => some (.bool (x.toList == y.toList))
  | .neq => some (.bool (!(x.toList == y.toList)))
  | .lss => some (.bool (Op.bytesLess x.toList y.toList))
  | .leq => some (.bool (Op.bytesLess x.toList y.toList || x.toList == y.toList))
  | .gtr => some (.bool (!(Op.bytesLess x.toList y.toList || x.toList == y.toList)))
  | .geq => some (.bool (!Op.bytesLess x.toList y.toList))
  | _ => none
/-- '==' of what is neither two integers nor two strings; c: one of the operands is a constant -/
def eqlD (c : Bool) : TypeDesc → AV → AV → Option Bool
  | .bool, .bool a, .bool b => some (a == b)
  | .pointer _, .nilPtr, .nilPtr => some true
  | .pointer _, .nilPtr, .ptr _ _ => some false
  | .pointer _, .ptr _ _, .nilPtr => some false
  | .slice _, .nilSlice, .nilSlice => some true
  | .slice _, .nilSlice, .slice _ _ _ => some false
  | .slice _, .slice _ _ _, .nilSlice => some false
  | .map _ _, .nilMap, .nilMap => some true
  | .map _ _, .nilMap, .map _ => some false
  | .map _ _, .map _, .nilMap => some false
  | .func _ _ _, .nilFunc, .nilFunc => some true
  | .func _ _ _, .nilFunc, .func _ _ _ => some false
  | .func _ _ _, .func _ _ _, .nilFunc => some false
  | .interface _, .nilIface, .nilIface => if c then some true else none
  | .interface _, .nilIface, .iface _ _ => some false
  | .interface _, .iface _ _, .nilIface => some false
  | _, _, _ => none
/-- '==' of structs, field by field: integers (0), bools (1), strings (2) -/
def eqlK : List Nat → List AV → List AV → Option Bool
  | [], [], [] => some true
  | 0 :: ks, .int k a :: l, .int k' b :: m => if k = k' then (eqlK ks l m).map fun r => a == b && r else none
  | 1 :: ks, .bool a :: l, .bool b :: m => (eqlK ks l m).map fun r => a == b && r
  | 2 :: ks, .str a :: l, .str b :: m => (eqlK ks l m).map fun r => a.toList == b.toList && r
  | _, _, _ => none
section
variable (P : Program)
def kindK (t : TypeId) : Option Nat := match P.underlying t with
  | some (.int _) => some 0
  | some .bool => some 1
  | some .string => some 2
  | _ => none
def kindsF : Nat → List Field → Option (List Nat)
  | _, [] => some []
  | i, f :: fs => if f.name ≠ "_" ∧ f.offset = i then match kindK P f.type, kindsF (i + 1) fs with
    | some k, some r => some (k :: r)
    | _, _ => none
    else none
/-- a struct's kinds, if it holds integers, bools and strings alone -/
def kindsT (t : TypeId) : Option (List Nat) := match P.underlying t with
  | some (.struct fs) => if P.stoodInHeld t = false ∧ P.eqGuardType P.depth t = false then kindsF P 0 fs.toList else none
  | _ => none
def eqlS (t : TypeId) (l m : List AV) : Option Bool := match kindsT P t with
  | some ks => eqlK ks l m
  | none => none
def eqlA (c : Bool) (t : TypeId) (x y : AV) : Option Bool := match P.underlying t with
  | some d => eqlD c d x y
  | none => none
def binA (c : Bool) (op : BinOp) (t : TypeId) (x y : AV) : Option AV :=
  match x, y with
  | .int k a, .int k' b => match op with
    | .shl => shiftA .shl k a b
    | .shr => shiftA .shr k a b
    | op => if k = k' then intA op k a b else none
  | .str a, .str b => strA op a b
  | .agg l, .agg m => match op with
    | .eql => (eqlS P t l m).map .bool
    | .neq => (eqlS P t l m).map fun b => .bool !b
    | _ => none
  | x, y => match op with
    | .eql => (eqlA P c t x y).map .bool
    | .neq => (eqlA P c t x y).map fun b => .bool !b
    | _ => none
def unA (op : UnOp) (x : AV) : Option AV := match op, x with
  | .neg, .int k n => some (.int k (k.wrap (0 - n)))
  | .xor, .int k n => some (.int k (bits .xor k (if k.signed then -1 else k.max) n))
  | .not, .bool b => some (.bool !b)
  | _, _ => none

/-- bytes -/
def byteC (b : UInt8) : AV := .int .u8 b.toNat
def bytesC (s : ByteArray) : List AV := s.data.toList.map byteC
def u8s : List AV → Option (List Int)
  | [] => some []
  | .int .u8 n :: l => (u8s l).map (n :: ·)
  | _ => none
def strOf (ns : List Int) : ByteArray := ns.foldl (fun r n => r.push (UInt8.ofNat n.toNat)) ByteArray.empty

/-- the cells that a slice shows -/
def rowOf (sz : Nat) (H : AH) : AV → Option (List AV)
  | .nilSlice => some []
  | .slice b o n => match H.get b with
    | some (.cells _ _ xs) => if o + n * sz ≤ xs.length then some ((xs.drop o).take (n * sz)) else none
    | _ => none
  | _ => none

def convA (src dst : TypeId) (x : AV) (H : AH) : Option (AV × AH) :=
  match P.underlying src, P.underlying dst, x with
  | some _, some (.int k), .int _ n => some (.int k (k.wrap n), H)
  | some _, some .string, .str s => some (.str s, H)
  | some (.slice e), some .string, x => match P.underlying e with
    | some (.int .u8) => match rowOf 1 H x with
      | some cs => match u8s cs with
        | some ns => some (.str (strOf ns), H)
        | none => none
      | none => none
    | _ => none
  | some .string, some (.slice e), .str s => match P.underlying e, sizeT P e with
    | some (.int .u8), some 1 => some (.slice H.next 0 s.size, H.push (.cells e false (bytesC s)))
    | _, _ => none
  | some (.slice _), some (.slice e), .slice b o n => match P.underlying e, H.get b with
    | some (.int .u8), some (.cells _ false _) => if src = dst ∧ n ≠ 0 then some (.slice b o n, H) else none
    | _, _ => none
  | _, _, _ => none

def opndL (τ : Tm) : List Operand → Option (List AV)
  | [] => some []
  | x :: l => match opnd τ x, opndL τ l with | some a, some r => some (a :: r) | _, _ => none
def opndP (τ : Tm) : List (Nat × Operand) → Option (List (Nat × AV))
  | [] => some []
  | (i, x) :: l => match opnd τ x, opndP τ l with | some a, some r => some ((i, a) :: r) | _, _ => none
def fillA (place : Nat → Option (Nat × Nat)) (cells : List AV) : List (Nat × AV) → Option (List AV)
  | [] => some cells
  | (i, v) :: rest => match place i with
    | none => none
    | some (off, size) => if v.cells.length = size ∧ off + v.cells.length ≤ cells.length then fillA place (spl cells off v.cells) rest else none
/-- where a struct's fields lie: offset, size -/
def placesT (t : TypeId) : Option (List (Nat × Nat)) := match P.underlying t with
  | some (.struct fs) => fs.toList.mapM fun f => (P.info? f.type).map fun i => (f.offset, i.size)
  | _ => none
def arrT (t : TypeId) : Option (Nat × TypeId) := match P.underlying t with
  | some (.array n e) => some (n, e)
  | _ => none
def sliceT (t : TypeId) : Option TypeId := match P.underlying t with
  | some (.slice e) => some e
  | _ => none
def zerosA (z : List AV) : Nat → List AV
  | 0 => []
  | n + 1 => z ++ zerosA z n
def partA (t : TypeId) (cs : List AV) (o : Nat) : Option AV := match aggT P t with
  | some true => match sizeT P t with
    | some n => if o + n ≤ cs.length then some (.agg ((cs.drop o).take n)) else none
    | none => none
  | some false => cs[o]?
  | none => none
def idxA (t : TypeId) (x i : AV) : Option AV := match i with
  | .int _ n => match P.underlying t, x with
    | some (.slice e), .slice b o len => match sizeT P e with
      | some sz => if 0 ≤ n ∧ n < (len : Int) then some (.ptr b (o + n.toNat * sz)) else none
      | none => none
    | some (.array len e), .ptr b o => match sizeT P e with
      | some sz => if 0 ≤ n ∧ n < (len : Int) then some (.ptr b (o + n.toNat * sz)) else none
      | none => none
    | _, _ => none
  | _ => none
def indexA (t : TypeId) (x i : AV) : Option AV := match i with
  | .int _ n => match P.underlying t, x with
    | some (.array len e), .agg cs => match sizeT P e with
      | some sz => if 0 ≤ n ∧ n < (len : Int) then partA P e cs (n.toNat * sz) else none
      | none => none
    | some .string, .str s => if h : 0 ≤ n ∧ n.toNat < s.size then some (.int .u8 (s[n.toNat]'h.2).toNat) else none
    | _, _ => none
  | _ => none
def bndA (d : Nat) : Option (Option AV) → Option Int
  | none => none
  | some none => some d
  | some (some (.int _ n)) => some n
  | _ => none
def opndO (τ : Tm) : Option Operand → Option (Option AV)
  | none => some none
  | some x => (opnd τ x).map some
def cutA (t : TypeId) (x : AV) (lo hi : Option (Option AV)) (H : AH) : Option AV :=
  match P.underlying t, x with
  | some .string, .str s => match bndA 0 lo, bndA s.size hi with
    | some l, some h => if 0 ≤ l ∧ l ≤ h ∧ h ≤ s.size then some (.str (s.extract l.toNat h.toNat)) else none
    | _, _ => none
  | some (.slice e), .slice b o n => match sizeT P e, bndA 0 lo, bndA n hi, H.get b with
    | some sz, some l, some h, some (.cells e' _ _) => if 0 ≤ l ∧ l ≤ h ∧ h ≤ n ∧ sizeT P e' = some sz then some (.slice b (o + l.toNat * sz) (h.toNat - l.toNat)) else none
    | _, _, _, _ => none
  | some (.slice e), .nilSlice => match sizeT P e, bndA 0 lo, bndA 0 hi with
    | some _, some l, some h => if l = 0 ∧ h = 0 then some .nilSlice else none
    | _, _, _ => none
  | some (.array len e), .ptr b o => match sizeT P e, bndA 0 lo, bndA len hi, H.get b with
    | some sz, some l, some h, some (.cells e' _ xs) => if 0 ≤ l ∧ l ≤ h ∧ h ≤ len ∧ sizeT P e' = some sz ∧ o + len * sz ≤ xs.length then some (.slice b (o + l.toNat * sz) (h.toNat - l.toNat)) else none
    | _, _, _, _ => none
  | _, _ => none

def lenA (t : TypeId) (x : AV) (H : AH) : Option AV := match P.underlying t, x with
  | some .string, .str s => some (.int .i64 s.size)
  | some (.slice _), .slice _ _ n => some (.int .i64 n)
  | some (.slice _), .nilSlice => some (.int .i64 0)
  | some (.array n _), _ => some (.int .i64 n)
  | some (.map _ _), .nilMap => some (.int .i64 0)
  | some (.map _ _), .map b => match H.get b with
    | some (.map l) => some (.int .i64 l.length)
    | _ => none
  | _, _ => none
def mx2 : AV → AV → Option AV
  | .int k x, .int _ y => some (.int k (if y > x then y else x))
  | _, _ => none
def mn2 : AV → AV → Option AV
  | .int k x, .int _ y => some (.int k (if y < x then y else x))
  | _, _ => none
def foldA (f : AV → AV → Option AV) : AV → List AV → Option AV
  | a, [] => some a
  | a, b :: l => match f a b with | some c => foldA f c l | none => none

/-- what an append adds -/
def newsA (sz : Nat) (tx : TypeId) (x : AV) (H : AH) : Option (Nat × List AV) := match P.underlying tx, x with
  | some (.slice _), .nilSlice => some (0, [])
  | some (.slice _), .slice b o n => (rowOf sz H (.slice b o n)).map fun l => (n, l)
  | some .string, .str s => if sz = 1 then some (s.size, bytesC s) else none
  | _, _ => none
def appA (t tx : TypeId) (s x : AV) (H : AH) : Option (AV × AH) := match sliceT P t with
  | some e => match sizeT P e, bytesT P e, zeroT P e with
    | some sz, some by_, some z => if z.length = sz then match newsA P sz tx x H with
      | some (m, news) =>
        if m = 0 then (match s with
          | .nilSlice => some (s, H)
          | .slice _ _ _ => some (s, H)
          | _ => none)
        else match s with
          | .nilSlice => if m * by_ ≤ 70368744177664 ∧ m ≤ 70368744177664 then some (.slice H.next 0 m, H.push (.cells e false news)) else none
          | .slice b o n => match H.get b with
            | some (.cells e' false xs) =>
              if e' = e ∧ o + n * sz ≤ xs.length ∧ (n + m) * by_ ≤ 70368744177664 ∧ n + m ≤ 70368744177664 then
                some (.slice H.next 0 (n + m), (H.kill b).push (.cells e false ((xs.drop o).take (n * sz) ++ news)))
              else none
            | _ => none
          | _ => none
      | none => none
      else none
    | _, _, _ => none
  | none => none
def isIntT (t : TypeId) : Bool := match P.underlying t with
  | some (.int _) => true
  | _ => false
/-- append of so many zeros -/
def appZ (t : TypeId) (s x : AV) (H : AH) : Option (AV × AH) := match sliceT P t, x with
  | some e, .int _ k => match sizeT P e, bytesT P e, zeroT P e with
    | some sz, some by_, some z => if z.length = sz ∧ 0 ≤ k ∧ k ≤ 70368744177664 then
        if k.toNat = 0 then (match s with
          | .nilSlice => some (s, H)
          | .slice _ _ _ => some (s, H)
          | _ => none)
        else match s with
          | .nilSlice => if k.toNat * by_ ≤ 70368744177664 then some (.slice H.next 0 k.toNat, H.push (.cells e false (zerosA z k.toNat))) else none
          | .slice b o n => match H.get b with
            | some (.cells e' false xs) =>
              if e' = e ∧ o + n * sz ≤ xs.length ∧ (n + k.toNat) * by_ ≤ 70368744177664 ∧ n + k.toNat ≤ 70368744177664 then
                some (.slice H.next 0 (n + k.toNat), (H.kill b).push (.cells e false ((xs.drop o).take (n * sz) ++ zerosA z k.toNat)))
              else none
            | _ => none
          | _ => none
      else none
    | _, _, _ => none
  | _, _ => none
def copyA (t tx : TypeId) (d x : AV) (H : AH) : Option (AV × AH) := match sliceT P t with
  | some e => match sizeT P e, d with
    | some sz, .slice b o n => match newsA P sz tx x H with
      | some (m, news) => match H.get b with
        | some (.cells e' false xs) =>
          if e' = e ∧ o + n * sz ≤ xs.length then
            some (.int .i64 (min m n : Nat), H.set b (.cells e' false (spl xs o (news.take (min m n * sz)))))
          else none
        | _ => none
      | none => none
    | some _, .nilSlice => some (.int .i64 0, H)
    | _, _ => none
  | none => none
end
end Go.Ev

/- The evaluator's scalar operations are the machine's. -/
namespace Go.Ev
open Go Go.RowKit
set_option linter.unusedSimpArgs false
set_option linter.unusedVariables false

section
variable {P : Program} {μ : Mu}

theorem intA_sound {op : BinOp} {k : IntKind} {a b : Int} {r : AV} (t : TypeId) (h : intA op k a b = some r) (w : World) :
    ∃ v, (binOp op t (.int k a) (.int k b)).run P w = .ok v w ∧ VR μ r v := by
  cases op <;> simp only [intA, Option.some.injEq, reduceCtorEq] at h <;> (try split at h) <;> (try simp only [Option.some.injEq, reduceCtorEq] at h) <;> (try (subst h; simp [binOp, Op.intArith, Op.intDiv, Op.intCmp, Op.intBits, VR, bits, *]; done))
theorem shiftA_sound {op : BinOp} (hop : op = .shl ∨ op = .shr) {k k' : IntKind} {a b : Int} {r : AV} (t : TypeId) (h : shiftA op k a b = some r) (w : World) :
    ∃ v, (binOp op t (.int k a) (.int k' b)).run P w = .ok v w ∧ VR μ r v := by
  rcases hop with rfl | rfl <;> simp only [shiftA] at h <;> split at h <;> simp at h <;> subst h <;> simp [binOp, Op.shift, VR, *]
theorem strA_sound {op : BinOp} {a b : ByteArray} {r : AV} (t : TypeId) (h : strA op a b = some r) (w : World) :
    ∃ v, (binOp op t (.string a) (.string b)).run P w = .ok v w ∧ VR μ r v := by
  cases op <;> simp only [strA, Option.some.injEq, reduceCtorEq] at h <;> (try split at h) <;> (try simp only [Option.some.injEq, reduceCtorEq] at h)
  case add.isTrue hle =>
    subst h
    have : ¬ ((a.size : Int) + b.size > 9223372036854775807) := by omega
    simp [binOp, Op.stringOp, VR, IntKind.max, IntKind.signed, IntKind.bits]
    omega
  all_goals (subst h; simp [binOp, Op.stringOp, VR])

theorem equalIn_sound {t : TypeId} {d : TypeDesc} (hd : P.underlying t = some d) {c : Bool} {x y : AV} {r : Bool} (h : eqlD c d x y = some r) {u v : Value} (hx : VR μ x u) (hy : VR μ y v) (w : World) (n : Nat) :
    (Op.equalIn (n + 1) t u v).run P w = .ok r w := by
  unfold eqlD at h
  split at h
  all_goals first
    | (simp at h; done)
    | skip
  all_goals
    simp only [VR] at hx hy
    (try obtain ⟨_, _, _, _, rfl, _⟩ := hx) <;> (try obtain ⟨_, _, rfl, _⟩ := hx) <;> (try obtain ⟨_, _, rfl⟩ := hx) <;> (try obtain ⟨_, rfl, _⟩ := hx) <;> (try subst hx) <;>
    (try obtain ⟨_, _, _, _, rfl, _⟩ := hy) <;> (try obtain ⟨_, _, rfl, _⟩ := hy) <;> (try obtain ⟨_, _, rfl⟩ := hy) <;> (try obtain ⟨_, rfl, _⟩ := hy) <;> (try subst hy) <;>
    first
      | (simp at h; subst h; simp [Op.equalIn, run_underlying hd]; done)
      | (split at h <;> simp at h; subst h; simp [Op.equalIn, run_underlying hd]; done)
      | (simp at h; simp [Op.equalIn, run_underlying hd, h]; done)

theorem equal_sound {t : TypeId} {d : TypeDesc} (hd : P.underlying t = some d) {c : Bool} {x y : AV} {r : Bool} (h : eqlD c d x y = some r) {u v : Value} (hx : VR μ x u) (hy : VR μ y v) (w : World) :
    (Op.equal t u v).run P w = .ok r w := equalIn_sound hd h hx hy w 9999
def isC : Operand → Bool
  | .const _ => true
  | _ => false
theorem guard_other {op : BinOp} (h1 : op ≠ .eql) (h2 : op ≠ .neq) (t : TypeId) (x y : Operand) (u v : Value) (w : World) : (eqGuard op t x y u v).run P w = .ok () w := by
  unfold eqGuard
  cases op <;> first | (exact absurd rfl h1) | (exact absurd rfl h2) | simp
theorem guard_plain {op : BinOp} {t : TypeId} {x y : Operand} {u v : Value} (h1 : ∀ l m : Array Value, u = .agg l → v = .agg m → False) (h2 : u = .nilIface → v = .nilIface → (isC x || isC y) = true) (w : World) :
    (eqGuard op t x y u v).run P w = .ok () w := by
  by_cases e1 : op = .eql ∨ op = .neq
  · unfold eqGuard
    cases u <;> cases v <;> first
      | (rcases e1 with rfl | rfl <;> simp; done)
      | (exact (h1 _ _ rfl rfl).elim)
      | skip
    have := h2 rfl rfl
    rcases e1 with rfl | rfl <;> cases x <;> cases y <;> simp [isC] at this <;> simp
  · exact guard_other (fun e => e1 (.inl e)) (fun e => e1 (.inr e)) t x y u v w

theorem kindK_agg {t : TypeId} {k : Nat} (h : kindK P t = some k) : aggT P t = some false := by
  unfold kindK at h
  split at h <;> (first | (rename_i hu; unfold aggT; rw [hu]; rfl) | simp at h)
theorem run_part1 {t : TypeId} (h : aggT P t = some false) {xs : Array Value} {o : Nat} {v : Value} (hv : xs[o]? = some v) (w : World) : (part t xs o).run P w = .ok v w := by
  simp [part, run_isAgg h, hv]
theorem kindK_eq {t : TypeId} {k : Nat} (h : kindK P t = some k) {a b : AV} {q : Bool} {u v : Value} (hu : VR μ a u) (hv : VR μ b v)
    (hq : (k = 0 ∧ ∃ i x y, a = .int i x ∧ b = .int i y ∧ q = (x == y)) ∨ (k = 1 ∧ ∃ x y, a = .bool x ∧ b = .bool y ∧ q = (x == y)) ∨ (k = 2 ∧ ∃ x y, a = .str x ∧ b = .str y ∧ q = (x.toList == y.toList))) (d : Nat) (w : World) :
    (Op.equalIn (d + 1) t u v).run P w = .ok q w := by
  rcases hq with ⟨rfl, i, x, y, rfl, rfl, rfl⟩ | ⟨rfl, x, y, rfl, rfl, rfl⟩ | ⟨rfl, x, y, rfl, rfl, rfl⟩ <;> simp only [VR] at hu hv <;> subst hu <;> subst hv <;> unfold kindK at h <;> split at h <;> simp at h
  · exact run_equalIn_int w d t _ _ _ _ (by assumption)
  · exact run_equalIn_bool' w d t _ _ (by assumption)
  · exact run_equalIn_string w d t _ _ (by assumption)
theorem eqlK_sound (d : Nat) (w : World) : ∀ (fs : List Field) (i : Nat) (ks : List Nat) (l m : List AV) (r : Bool) (xs ys : Array Value), kindsF P i fs = some ks → eqlK ks l m = some r →
    (∀ (j : Nat) (a : AV), l[j]? = some a → ∃ v, xs[i + j]? = some v ∧ VR μ a v) → (∀ (j : Nat) (a : AV), m[j]? = some a → ∃ v, ys[i + j]? = some v ∧ VR μ a v) →
    (Op.eqFields (d + 1) xs ys fs).run P w = .ok r w
  | [], i, ks, l, m, r, xs, ys, hk, he, hx, hy => by
    simp only [kindsF, Option.some.injEq] at hk
    subst hk
    cases l <;> cases m <;> simp [eqlK] at he
    subst he
    simp [Op.eqFields]
  | f :: fs, i, ks, l, m, r, xs, ys, hk, he, hx, hy => by
    simp only [kindsF] at hk
    split at hk
    · rename_i hf
      obtain ⟨hf1, hf2⟩ := hf
      split at hk
      · rename_i k kr h1 h2
        simp only [Option.some.injEq] at hk
        subst hk
        have key : ∃ a b l' m' q r', l = a :: l' ∧ m = b :: m' ∧ eqlK kr l' m' = some r' ∧ r = (q && r') ∧
            ((k = 0 ∧ ∃ i x y, a = .int i x ∧ b = .int i y ∧ q = (x == y)) ∨ (k = 1 ∧ ∃ x y, a = .bool x ∧ b = .bool y ∧ q = (x == y)) ∨ (k = 2 ∧ ∃ x y, a = .str x ∧ b = .str y ∧ q = (x.toList == y.toList))) := by
          unfold eqlK at he
          split at he
          · rename_i hks
            simp at hks
          · rename_i hks
            simp only [List.cons.injEq] at hks
            obtain ⟨rfl, rfl⟩ := hks
            split at he
            · rename_i hkk
              subst hkk
              simp only [Option.map_eq_some_iff] at he
              obtain ⟨r', e1, e2⟩ := he
              exact ⟨_, _, _, _, _, r', rfl, rfl, e1, e2.symm, .inl ⟨rfl, _, _, _, rfl, rfl, rfl⟩⟩
            · simp at he
          · rename_i hks
            simp only [List.cons.injEq] at hks
            obtain ⟨rfl, rfl⟩ := hks
            simp only [Option.map_eq_some_iff] at he
            obtain ⟨r', e1, e2⟩ := he
            exact ⟨_, _, _, _, _, r', rfl, rfl, e1, e2.symm, .inr (.inl ⟨rfl, _, _, rfl, rfl, rfl⟩)⟩
          · rename_i hks
            simp only [List.cons.injEq] at hks
            obtain ⟨rfl, rfl⟩ := hks
            simp only [Option.map_eq_some_iff] at he
            obtain ⟨r', e1, e2⟩ := he
            exact ⟨_, _, _, _, _, r', rfl, rfl, e1, e2.symm, .inr (.inr ⟨rfl, _, _, rfl, rfl, rfl⟩)⟩
          · simp at he
        obtain ⟨a, b, l', m', q, r', rfl, rfl, e1, rfl, hq⟩ := key
        obtain ⟨u, u1, u2⟩ := hx 0 a rfl
        obtain ⟨v, v1, v2⟩ := hy 0 b rfl
        simp only [Nat.add_zero] at u1 v1
        subst hf2
        have hg := kindK_agg h1
        have ih := eqlK_sound d w fs (f.offset + 1) kr l' m' r' xs ys h2 e1 (fun j x hj => by
            obtain ⟨z, z1, z2⟩ := hx (j + 1) x (by simpa using hj); exact ⟨z, by rw [← z1]; congr 1; omega, z2⟩) (fun j x hj => by
            obtain ⟨z, z1, z2⟩ := hy (j + 1) x (by simpa using hj); exact ⟨z, by rw [← z1]; congr 1; omega, z2⟩)
        simp only [Op.eqFields, if_pos hf1, Sem.run_bind, run_part1 hg u1, run_part1 hg v1, kindK_eq h1 u2 v2 hq d, Result.andThen_ok]
        cases q
        · simp
        · simpa using ih
      · simp at hk
    · simp at hk
theorem eqlS_sound {t : TypeId} {l m : List AV} {r : Bool} (h : eqlS P t l m = some r) {u v : Value} (hu : VR μ (.agg l) u) (hv : VR μ (.agg m) v) (op : BinOp) (x y : Operand) (w : World) :
    ∃ xs ys, u = .agg xs ∧ v = .agg ys ∧ (eqGuard op t x y u v).run P w = .ok () w ∧ (Op.equalIn 10000 t (.agg xs) (.agg ys)).run P w = .ok r w := by
  unfold eqlS at h
  split at h
  · rename_i ks hk
    unfold kindsT at hk
    split at hk
    · rename_i fs hfs
      split at hk
      · rename_i hc
        simp only [VR] at hu hv
        obtain ⟨xs, rfl, hx⟩ := hu
        obtain ⟨ys, rfl, hy⟩ := hv
        have hF : P.fieldsOf t = fs := by unfold Program.fieldsOf; rw [hfs]
        refine ⟨xs, ys, rfl, rfl, run_eqGuard_agg w op t x y xs ys hc.2, ?_⟩
        rw [run_equalIn_struct w 9999 t xs ys (by rw [hF]; exact hfs) hc.1, hF]
        exact eqlK_sound 9998 w fs.toList 0 ks l m r xs ys hk h (fun j a ha => by simpa using hx.get j a ha) (fun j a ha => by simpa using hy.get j a ha)
      · simp at hk
    · simp at hk
  · simp at h
theorem binA_sound {t : TypeId} {op : BinOp} {x y : Operand} {a b r : AV} {u v : Value} (h : binA P (isC x || isC y) op t a b = some r) (ha : VR μ a u) (hb : VR μ b v) (w : World) :
    ∃ z, (do eqGuard op t x y u v; binOp op t u v : Sem Value).run P w = .ok z w ∧ VR μ r z := by
  unfold binA at h
  split at h
  · rename_i k m k' n
    simp only [VR] at ha hb; subst ha; subst hb
    rw [Sem.run_bind, guard_plain (fun _ _ e => by cases e) (fun e => by cases e)]
    simp only [Result.andThen_ok]
    split at h
    · exact shiftA_sound (.inl rfl) t h w
    · exact shiftA_sound (.inr rfl) t h w
    · split at h
      · rename_i hk; subst hk; exact intA_sound t h w
      · simp at h
  · simp only [VR] at ha hb; subst ha; subst hb
    rw [Sem.run_bind, guard_plain (fun _ _ e => by cases e) (fun e => by cases e)]
    exact strA_sound t h w
  · split at h
    · simp only [Option.map_eq_some_iff] at h
      obtain ⟨q, hq, rfl⟩ := h
      obtain ⟨xs, ys, rfl, rfl, g1, g2⟩ := eqlS_sound hq ha hb .eql x y w
      exact ⟨.bool q, by rw [Sem.run_bind, g1]; simp only [Result.andThen_ok]; rw [run_eql_struct, g2]; rfl, by simp [VR]⟩
    · simp only [Option.map_eq_some_iff] at h
      obtain ⟨q, hq, rfl⟩ := h
      obtain ⟨xs, ys, rfl, rfl, g1, g2⟩ := eqlS_sound hq ha hb .neq x y w
      exact ⟨.bool !q, by rw [Sem.run_bind, g1]; simp only [Result.andThen_ok]; rw [run_neq_struct, g2]; rfl, by simp [VR]⟩
    · simp at h
  · rename_i hni hns hna
    have key : ∀ q, eqlA P (isC x || isC y) t a b = some q → (eqGuard op t x y u v).run P w = .ok () w ∧ (Op.equal t u v).run P w = .ok q w := by
      intro q hq
      unfold eqlA at hq
      split at hq
      · rename_i d hd
        refine ⟨guard_plain ?_ ?_ w, equal_sound hd hq ha hb w⟩
        · intro l m e1 e2; subst e1; subst e2
          unfold eqlD at hq
          split at hq <;> simp [VR] at ha hb hq
        · intro e1 e2; subst e1; subst e2
          unfold eqlD at hq
          split at hq <;> simp [VR] at ha hb hq
          simpa using hq.1
      · simp at hq
    have hq0 : ∀ q, eqlA P (isC x || isC y) t a b = some q → (∀ (k : IntKind) (m : Int), u = .int k m → False) ∧ (∀ s, u = .string s → False) := by
      intro q hq
      unfold eqlA at hq
      split at hq
      · unfold eqlD at hq
        constructor <;> (intros; subst_vars; split at hq <;> simp [VR] at ha hq)
      · simp at hq
    split at h
    · simp only [Option.map_eq_some_iff] at h
      obtain ⟨q, hq, rfl⟩ := h
      obtain ⟨k1, k2⟩ := key q hq
      obtain ⟨n1, n2⟩ := hq0 q hq
      refine ⟨.bool q, ?_, by simp [VR]⟩
      rw [Sem.run_bind, k1]
      simp only [Result.andThen_ok]
      have : binOp .eql t u v = (do pure (.bool (← Op.equal t u v)) : Sem Value) := by
        cases u <;> first | (exact (n1 _ _ rfl).elim) | (exact (n2 _ rfl).elim) | (cases v <;> first | rfl | skip)
        all_goals (exfalso; unfold eqlA at hq; split at hq <;> (try simp at hq) ; unfold eqlD at hq; split at hq <;> simp [VR] at ha hb hq)
      rw [this]; simp [k2]
    · simp only [Option.map_eq_some_iff] at h
      obtain ⟨q, hq, rfl⟩ := h
      obtain ⟨k1, k2⟩ := key q hq
      obtain ⟨n1, n2⟩ := hq0 q hq
      refine ⟨.bool !q, ?_, by simp [VR]⟩
      rw [Sem.run_bind, k1]
      simp only [Result.andThen_ok]
      have : binOp .neq t u v = (do pure (.bool (!(← Op.equal t u v))) : Sem Value) := by
        cases u <;> first | (exact (n1 _ _ rfl).elim) | (exact (n2 _ rfl).elim) | (cases v <;> first | rfl | skip)
        all_goals (exfalso; unfold eqlA at hq; split at hq <;> (try simp at hq) ; unfold eqlD at hq; split at hq <;> simp [VR] at ha hb hq)
      rw [this]; simp [k2]
    · simp at h
theorem unA_sound {op : UnOp} {a r : AV} {u : Value} (h : unA op a = some r) (ha : VR μ a u) (w : World) : ∃ z, (Op.unary op u).run P w = .ok z w ∧ VR μ r z := by
  unfold unA at h
  split at h <;> simp at h <;> subst h <;> simp only [VR] at ha <;> subst ha <;> simp [Op.unary, Op.intArith, Op.intBits, VR, bits]
end
end Go.Ev

/- The evaluator's operations on parts, slices and conversions are the machine's. -/
namespace Go.Ev
open Go Go.RowKit
set_option linter.unusedSimpArgs false
set_option linter.unusedVariables false

section
variable {P : Program} {w0 : World} {H : AH} {μ : Mu} {w : World}

theorem run_typeInfo {t : TypeId} {i : TypeInfo} (h : P.info? t = some i) (w : World) : (typeInfo t).run P w = .ok i w := by simp [typeInfo, h]
theorem sizeT_info {t : TypeId} {n : Nat} (h : sizeT P t = some n) : ∃ i, P.info? t = some i ∧ i.size = n := by
  unfold sizeT at h; simp only [Option.map_eq_some_iff] at h; exact h
theorem bytesT_info {t : TypeId} {n : Nat} (h : bytesT P t = some n) : ∃ i, P.info? t = some i ∧ i.bytes = n := by
  unfold bytesT at h; simp only [Option.map_eq_some_iff] at h; exact h

theorem part_sound {t : TypeId} {l : List AV} {o : Nat} {r : AV} (h : partA P t l o = some r) {cs : Array Value} (hl : VRs μ l cs.toList) (w : World) :
    ∃ z, (part t cs o).run P w = .ok z w ∧ VR μ r z := by
  unfold partA at h
  split at h
  · rename_i hq
    split at h
    · rename_i n hn
      split at h
      · rename_i hle
        simp only [Option.some.injEq] at h; subst h
        refine ⟨.agg (cs.extract o (o + n)), by simp [part, run_isAgg hq, run_sizeOf hn], ?_⟩
        simp only [VR]
        refine ⟨_, rfl, ?_⟩
        have := (hl.drop o).take n
        rw [Array.toList_extract, List.extract_eq_take_drop]
        simpa using this
      · simp at h
    · simp at h
  · rename_i hq
    obtain ⟨v, h1, h2⟩ := hl.get o r h
    rw [Array.getElem?_toList] at h1
    exact ⟨v, by simp [part, run_isAgg hq, h1], h2⟩
  · simp at h

theorem sureAddr_run (a : Addr) (w : World) : (Instr.sureAddr (.pointer (some a))).run P w = .ok a w := rfl

theorem idxA_sound {t : TypeId} {x i r : AV} (h : idxA P t x i = some r) {u v : Value} (hx : VR μ x u) (hi : VR μ i v) (w : World) :
    ∃ z, (Instr.indexAt t u v).run P w = .ok z w ∧ VR μ r z := by
  unfold idxA at h
  split at h
  · rename_i k n
    simp only [VR] at hi; subst hi
    split at h
    · rename_i e b o len hd
      split at h
      · rename_i sz hs
        split at h
        · rename_i hn
          simp only [Option.some.injEq] at h; subst h
          simp only [VR] at hx
          obtain ⟨L, cap, a, h1, rfl, h2, h3⟩ := hx
          obtain ⟨rfl, _⟩ := h3 (by omega)
          refine ⟨.pointer (some ⟨L.c, L.base + o + n.toNat * sz, none⟩), ?_, ?_⟩
          · simp [Instr.indexAt, asIntOf, run_underlying hd, run_sizeOf hs, hn.1, hn.2, Addr.add_lit]
          · simp only [VR]; exact ⟨L, h1, by rw [Nat.add_assoc]⟩
        · simp at h
      · simp at h
    · rename_i len e b o hd
      split at h
      · rename_i sz hs
        split at h
        · rename_i hn
          simp only [Option.some.injEq] at h; subst h
          simp only [VR] at hx
          obtain ⟨L, h1, rfl⟩ := hx
          refine ⟨.pointer (some ⟨L.c, L.base + o + n.toNat * sz, none⟩), ?_, ?_⟩
          · simp [Instr.indexAt, asIntOf, run_underlying hd, run_sizeOf hs, hn.1, hn.2, Addr.add_lit, sureAddr_run]
          · simp only [VR]; exact ⟨L, h1, by rw [Nat.add_assoc]⟩
        · simp at h
      · simp at h
    · simp at h
  · simp at h

theorem indexA_sound {t : TypeId} {x i r : AV} (h : indexA P t x i = some r) {u v : Value} (hx : VR μ x u) (hi : VR μ i v) (w : World) :
    ∃ z, (Instr.index t u v).run P w = .ok z w ∧ VR μ r z := by
  unfold indexA at h
  split at h
  · rename_i k n
    simp only [VR] at hi; subst hi
    split at h
    · rename_i len e l hd
      split at h
      · rename_i sz hs
        split at h
        · rename_i hn
          simp only [VR] at hx
          obtain ⟨cs, rfl, hl⟩ := hx
          obtain ⟨z, h1, h2⟩ := part_sound h hl w
          exact ⟨z, by simp [Instr.index, asIntOf, run_underlying hd, run_sizeOf hs, hn.1, hn.2, h1], h2⟩
        · simp at h
      · simp at h
    · rename_i s hd
      split at h
      · rename_i hn
        simp only [Option.some.injEq] at h; subst h
        simp only [VR] at hx; subst hx
        refine ⟨.int .u8 (s[n.toNat]'hn.2).toNat, ?_, by simp only [VR]⟩
        have : (s[n.toNat]? : Option UInt8) = some (s[n.toNat]'hn.2) := by simp [hn.2]
        simp [Instr.index, asIntOf, run_underlying hd, hn.1, this]
      · simp at h
    · simp at h
  · simp at h

theorem fieldAt_sound {s f : Nat} {off : Nat} {ft : TypeId} (h : fieldT P s f = some (off, ft)) {n : Nat} (hn : sizeT P ft = some n) (hn0 : n ≠ 0) (c o : Nat) (w : World) :
    (Instr.fieldAt s (.pointer (some ⟨c, o, none⟩)) f).run P w = .ok (.pointer (some ⟨c, o + off, none⟩)) w := by
  unfold fieldT at h
  split at h
  · rename_i fs hd
    simp only [Option.map_eq_some_iff, Prod.mk.injEq] at h
    obtain ⟨x, hx, rfl, rfl⟩ := h
    simp [Instr.fieldAt, run_underlying hd, hx, sureAddr_run, fieldPlace, run_sizeOf hn, hn0, Addr.add_lit]
  · simp at h

theorem field_sound {s f : Nat} {off : Nat} {ft : TypeId} (h : fieldT P s f = some (off, ft)) {l : List AV} {r : AV} (hp : partA P ft l off = some r) {cs : Array Value} (hl : VRs μ l cs.toList) (w : World) :
    ∃ z, (Instr.field s (.agg cs) f).run P w = .ok z w ∧ VR μ r z := by
  unfold fieldT at h
  split at h
  · rename_i fs hd
    simp only [Option.map_eq_some_iff, Prod.mk.injEq] at h
    obtain ⟨x, hx, rfl, rfl⟩ := h
    obtain ⟨z, h1, h2⟩ := part_sound hp hl w
    exact ⟨z, by simp [Instr.field, run_underlying hd, hx, asAgg, h1], h2⟩
  · simp at h

/-- bounds of a slice expression -/
def BR (μ : Mu) : Option (Option AV) → Option Value → Prop
  | some none, none => True
  | some (some a), some v => VR μ a v
  | _, _ => False
theorem sliceBounds_sound {lo hi : Option (Option AV)} {l0 h0 : Option Value} (hl : BR μ lo l0) (hh : BR μ hi h0) {n cap : Nat} (hc : n ≤ cap) (sl : Bool) {l h : Int}
    (e1 : bndA 0 lo = some l) (e2 : bndA n hi = some h) (h1 : 0 ≤ l) (h2 : l ≤ h) (h3 : h ≤ n) (w : World) :
    (Instr.sliceBounds sl n cap l0 h0 none).run P w = .ok (l.toNat, h.toNat, cap) w := by
  have hb : ∀ (q : Option (Option AV)) (v : Value) (d : Nat) (z : Int), BR μ q (some v) → bndA d q = some z → ∃ k, v = .int k z := by
    intro q v d z hq hz
    unfold BR at hq
    split at hq
    · rename_i e; cases e
    · rename_i a v' e; simp only [Option.some.injEq] at e; subst e
      unfold bndA at hz
      split at hz <;> simp at hz
      · rename_i e; simp at e
      · rename_i k z' e; simp at e; subst e; subst hz; simp only [VR] at hq; exact ⟨k, hq⟩
    · exact hq.elim
  have hb0 : ∀ (q : Option (Option AV)) (d : Nat) (z : Int), BR μ q none → bndA d q = some z → z = d := by
    intro q d z hq hz
    unfold BR at hq
    split at hq
    · simp [bndA] at hz; exact hz.symm
    · rename_i e; cases e
    · exact hq.elim
  cases l0 with
  | none =>
    have := hb0 lo 0 l hl e1
    subst this
    cases h0 with
    | none =>
      have := hb0 hi n h hh e2
      subst this
      simp [Instr.sliceBounds]
    | some v =>
      obtain ⟨k, rfl⟩ := hb hi v n h hh e2
      have c1 : 0 ≤ h ∧ h ≤ (cap : Int) := ⟨by omega, by omega⟩
      simp [Instr.sliceBounds, Instr.sliceBound, asIntOf, c1.1, c1.2]
  | some v =>
    obtain ⟨k, rfl⟩ := hb lo v 0 l hl e1
    cases h0 with
    | none =>
      have := hb0 hi n h hh e2
      subst this
      simp [Instr.sliceBounds, Instr.sliceBound, asIntOf, h1, h2]
    | some v2 =>
      obtain ⟨k2, rfl⟩ := hb hi v2 n h hh e2
      have c1 : 0 ≤ h ∧ h ≤ (cap : Int) := ⟨by omega, by omega⟩
      have c2 : l ≤ max h 0 := by omega
      simp [Instr.sliceBounds, Instr.sliceBound, asIntOf, c1.1, c1.2, h1, h2, c2]

theorem cutA_sound (hR : Rel P w0 H μ w) {t : TypeId} {x r : AV} {lo hi : Option (Option AV)} (h : cutA P t x lo hi H = some r) {u : Value} (hx : VR μ x u) {l0 h0 : Option Value} (hl : BR μ lo l0) (hh : BR μ hi h0) :
    ∃ z, (Instr.sliceAt t u l0 h0 none).run P w = .ok z w ∧ VR μ r z := by
  unfold cutA at h
  split at h
  · rename_i s hd
    split at h
    · rename_i l h' e1 e2
      split at h
      · rename_i hc
        simp only [Option.some.injEq] at h; subst h
        simp only [VR] at hx
        subst hx
        refine ⟨.string (s.extract l.toNat h'.toNat), ?_, by simp only [VR]⟩
        simp [Instr.sliceAt, Instr.slice, run_underlying hd, sliceBounds_sound (P := P) hl hh (Nat.le_refl s.size) false e1 e2 hc.1 hc.2.1 hc.2.2 w]
      · simp at h
    · simp at h
  · rename_i e b o n hd
    split at h
    · rename_i sz l h' e' ro xs hs e1 e2 hb
      split at h
      · rename_i hc
        simp only [Option.some.injEq] at h; subst h
        simp only [VR] at hx
        obtain ⟨L, cap, a, h1, rfl, h2, h3⟩ := hx
        obtain ⟨g6, _⟩ := hR.sz hb h1
        have hsz := hc.2.2.2
        unfold sizeT at hsz
        rw [g6] at hsz; simp only [Option.some.injEq] at hsz
        refine ⟨.slice (if cap = l.toNat then some a else some (a.add (l.toNat * sz))) (h'.toNat - l.toNat) (cap - l.toNat), ?_, ?_⟩
        · simp [Instr.sliceAt, Instr.slice, run_underlying hd, sliceBounds_sound (P := P) hl hh h2 true e1 e2 hc.1 hc.2.1 hc.2.2.1 w, run_sizeOf hs]
        · simp only [VR]
          by_cases hcl : cap = l.toNat
          · rw [if_pos hcl]
            exact ⟨L, cap - l.toNat, a, h1, rfl, by omega, fun hne => by omega⟩
          · rw [if_neg hcl]
            refine ⟨L, cap - l.toNat, _, h1, rfl, by omega, fun hne => ?_⟩
            obtain ⟨rfl, h4⟩ := h3 (by omega)
            refine ⟨by rw [Addr.add_lit, Nat.add_assoc], ?_⟩
            have hle : l.toNat ≤ cap := by omega
            obtain ⟨q, rfl⟩ : ∃ q, cap = l.toNat + q := ⟨cap - l.toNat, by omega⟩
            rw [Nat.add_mul] at h4
            rw [Nat.add_sub_cancel_left]
            subst hsz
            omega
      · simp at h
    · simp at h
  · rename_i e hd
    split at h
    · rename_i sz l h' hs e1 e2
      split at h
      · rename_i hc
        obtain ⟨rfl, rfl⟩ := hc
        simp only [Option.some.injEq] at h; subst h
        simp only [VR] at hx; subst hx
        refine ⟨.slice none 0 0, ?_, by simp only [VR]⟩
        simp [Instr.sliceAt, Instr.slice, run_underlying hd, sliceBounds_sound (P := P) (n := 0) (cap := 0) hl hh (Nat.le_refl 0) true e1 e2 (by omega) (by omega) (by omega) w, run_sizeOf hs]
      · simp at h
    · simp at h
  · rename_i len e b o hd
    split at h
    · rename_i sz l h' e' ro xs hs e1 e2 hb
      split at h
      · rename_i hc
        simp only [Option.some.injEq] at h; subst h
        simp only [VR] at hx
        obtain ⟨L, h1, rfl⟩ := hx
        obtain ⟨g6, hrow⟩ := hR.sz hb h1
        have hsz := hc.2.2.2.1
        have hle := hc.2.2.2.2
        unfold sizeT at hsz
        rw [g6] at hsz; simp only [Option.some.injEq] at hsz
        subst hsz
        refine ⟨.slice (some (if len = l.toNat then ⟨L.c, L.base + o, none⟩ else (⟨L.c, L.base + o, none⟩ : Addr).add (l.toNat * L.sz))) (h'.toNat - l.toNat) (len - l.toNat), ?_, ?_⟩
        · simp [Instr.sliceAt, sureAddr_run, run_underlying hd, sliceBounds_sound (P := P) hl hh (Nat.le_refl len) false e1 e2 hc.1 hc.2.1 hc.2.2.1 w, run_sizeOf hs]
        · simp only [VR]
          refine ⟨L, len - l.toNat, _, h1, rfl, by omega, fun hne => ?_⟩
          rw [if_neg (by omega)]
          refine ⟨by rw [Addr.add_lit, Nat.add_assoc], ?_⟩
          obtain ⟨q, rfl⟩ : ∃ q, len = l.toNat + q := ⟨len - l.toNat, by omega⟩
          rw [Nat.add_mul] at hle
          rw [Nat.add_sub_cancel_left]
          omega
      · simp at h
    · simp at h
  · simp at h

theorem lenA_sound (hR : Rel P w0 H μ w) {t : TypeId} {x r : AV} (h : lenA P t x H = some r) {u : Value} (hx : VR μ x u) (ty : TypeId) :
    ∃ z, (Builtin.len_ #[t] ty #[u]).run P w = .ok z w ∧ VR μ r z := by
  unfold lenA at h
  split at h
  · rename_i s hd
    simp only [Option.some.injEq] at h; subst h
    simp only [VR] at hx; subst hx
    exact ⟨_, by simp [Builtin.len_, run_underlying hd]; rfl, by simp only [VR, goInt]⟩
  · rename_i e b o n hd
    simp only [Option.some.injEq] at h; subst h
    simp only [VR] at hx
    obtain ⟨L, cap, a, h1, rfl, h2, h3⟩ := hx
    exact ⟨_, by simp [Builtin.len_, run_underlying hd]; rfl, by simp only [VR, goInt]⟩
  · rename_i e hd
    simp only [Option.some.injEq] at h; subst h
    simp only [VR] at hx; subst hx
    exact ⟨_, by simp [Builtin.len_, run_underlying hd]; rfl, by simp [VR, goInt]⟩
  · rename_i n e hd
    simp only [Option.some.injEq] at h; subst h
    exact ⟨goInt n, by simp [Builtin.len_, run_underlying hd], by simp only [VR, goInt]⟩
  · rename_i hd
    simp only [Option.some.injEq] at h; subst h
    simp only [VR] at hx; subst hx
    exact ⟨_, by simp [Builtin.len_, run_underlying hd]; rfl, by simp [VR, goInt]⟩
  · rename_i k e b hd
    split at h
    · rename_i l hb
      simp only [Option.some.injEq] at h; subst h
      simp only [VR] at hx
      obtain ⟨L, h1, rfl⟩ := hx
      obtain ⟨L', es, ck, h2, h3, h4, _⟩ := hR.blk b _ hb
      rw [h1] at h2; simp only [Option.some.injEq] at h2; subst h2
      have hlen := h4.1.length
      simp at hlen
      refine ⟨goInt es.size, ?_, by simp only [VR, goInt]; rw [hlen]⟩
      simp [Builtin.len_, run_underlying hd, getObj, Sem.run, h3]
    · simp at h
  · simp at h
end
end Go.Ev

/- The evaluator's operations that make memory are the machine's. -/
namespace Go.Ev
open Go Go.RowKit
set_option linter.unusedSimpArgs false
set_option linter.unusedVariables false

/-- What an operation does: a value (or none), a world, names. -/
def Does (P : Program) (w0 : World) (μ : Mu) (H' : AH) (r : Result Value) (a : AV) : Prop :=
  ∃ u w' μ', r = .ok u w' ∧ Ext μ μ' ∧ Rel P w0 H' μ' w' ∧ VR μ' a u

section
variable {P : Program} {w0 : World} {H : AH} {μ : Mu} {w : World}

theorem Does.same (hR : Rel P w0 H μ w) {r : Result Value} {a : AV} (h : ∃ z, r = .ok z w ∧ VR μ a z) : Does P w0 μ H r a :=
  let ⟨z, h1, h2⟩ := h; ⟨z, w, μ, h1, Ext.refl _, hR, h2⟩

theorem cvS_one {v : Value} {a : AV} (h : cvS v = some a) : a.one = true := by
  unfold cvS at h
  split at h <;> simp at h <;> subst h <;> rfl
theorem cvL_one : ∀ {vs : List Value} {l : List AV}, cvL vs = some l → l.all AV.one = true
  | [], l, h => by simp [cvL] at h; subst h; rfl
  | v :: vs, l, h => by
    simp only [cvL] at h
    split at h
    · rename_i a r ha hr
      simp at h; subst h
      simp [cvS_one ha]
      have := cvL_one hr
      simpa using this
    · simp at h

theorem RowR.of_list {xs : List AV} {cs : Array Value} (h1 : xs.all AV.one = true) (h : VRs μ xs cs.toList) : RowR μ xs cs 0 := by
  refine ⟨h1, by have := h.length; simp at this; omega, fun i a ha => ?_⟩
  obtain ⟨v, h2, h3⟩ := h.get i a ha
  exact ⟨v, by rw [Nat.zero_add, ← Array.getElem?_toList]; exact h2, h3⟩

/-- a new block, and a pointer to its head -/
theorem push_ptr (hR : Rel P w0 H μ w) {e : TypeId} {xs : List AV} {cs : Array Value} {sz : Nat} (hsz : sizeT P e = some sz) (h1 : xs.all AV.one = true) (hv : VRs μ xs cs.toList) :
    Does P w0 μ (H.push (.cells e false xs)) (.ok (.pointer (some ⟨w.heap.size, 0, none⟩)) (w.alloc (.cells cs e))) (.ptr H.next 0) :=
  ⟨_, _, _, rfl, hR.ext _, hR.push (RowR.of_list h1 hv) hsz, by simp only [VR]; exact ⟨_, muPush_self _ _ _, by simp⟩⟩
theorem push_slice (hR : Rel P w0 H μ w) {e : TypeId} {xs : List AV} {cs : Array Value} {sz : Nat} (hsz : sizeT P e = some sz) (hrow : RowR μ xs cs 0) {n cap : Nat} (hn : n ≤ cap) (hc : cap * sz ≤ cs.size) :
    Does P w0 μ (H.push (.cells e false xs)) (.ok (.slice (some ⟨w.heap.size, 0, none⟩) n cap) (w.alloc (.cells cs e))) (.slice H.next 0 n) :=
  ⟨_, _, _, rfl, hR.ext _, hR.push hrow hsz, by
    simp only [VR]; exact ⟨_, cap, _, muPush_self _ _ _, rfl, hn, fun _ => ⟨by simp, by simpa using hc⟩⟩⟩

theorem zeroT_info {t : TypeId} {z : List AV} (h : zeroT P t = some z) : ∃ i v, P.info? t = some i ∧ i.zero = some v ∧ cvL v.cells.toList = some z := by
  unfold zeroT at h
  simp only [Option.bind_eq_some_iff] at h
  obtain ⟨i, hi, v, hv, hz⟩ := h
  exact ⟨i, v, hi, hv, hz⟩
theorem run_zeroValue {t : TypeId} {i : TypeInfo} {v : Value} (hi : P.info? t = some i) (hv : i.zero = some v) (w : World) : (zeroValue t).run P w = .ok v w := by
  simp [zeroValue, typeInfo, hi, hv]

theorem alloc_sound (hR : Rel P w0 H μ w) {e : TypeId} {z : List AV} {sz : Nat} (hz : zeroT P e = some z) (hsz : sizeT P e = some sz) :
    Does P w0 μ (H.push (.cells e false z)) ((Instr.alloc e true (.tuple #[])).run P w) (.ptr H.next 0) := by
  obtain ⟨i, v, hi, hv, hc⟩ := zeroT_info hz
  have : (Instr.alloc e true (.tuple #[])).run P w = .ok (.pointer (some ⟨w.heap.size, 0, none⟩)) (w.alloc (.cells v.cells e)) := by
    simp [Instr.alloc, run_zeroValue hi hv, newVar, newRow]
  rw [this]
  exact push_ptr hR hsz (cvL_one hc) (cvL_sound hc)
theorem box_sound (hR : Rel P w0 H μ w) {e : TypeId} {a : AV} {sz : Nat} (hsz : sizeT P e = some sz) (h1 : a.cells.all AV.one = true) {v : Value} (hv : VR μ a v) :
    Does P w0 μ (H.push (.cells e false a.cells)) ((Instr.box e v).run P w) (.ptr H.next 0) := by
  have : (Instr.box e v).run P w = .ok (.pointer (some ⟨w.heap.size, 0, none⟩)) (w.alloc (.cells v.cells e)) := by
    simp [Instr.box, newVar, newRow]
  rw [this]
  exact push_ptr hR hsz h1 hv.cells

/-- parts -/
def PartsR (μ : Mu) : List (Nat × AV) → List (Nat × Value) → Prop
  | [], vs => vs = []
  | (i, a) :: l, vs => ∃ u us, vs = (i, u) :: us ∧ VR μ a u ∧ PartsR μ l us
theorem foldl_set (o : Nat) : ∀ (us : List Value) (k : Nat) (cs : Array Value) (l : List AV) (ys : List AV), VRs μ l cs.toList → VRs μ ys us → o + k + ys.length ≤ l.length →
    VRs μ (spl l (o + k) ys) ((us.zipIdx k).foldl (fun (cs : Array Value) (p : Value × Nat) => cs.setIfInBounds (o + p.2) p.1) cs).toList
  | [], k, cs, l, ys, h1, h2, _ => by
    have := h2.length
    cases ys with
    | nil => simpa [spl] using h1
    | cons => simp at this
  | u :: us, k, cs, l, ys, h1, h2, hle => by
    cases ys with
    | nil => simp only [VRs] at h2; simp at h2
    | cons y ys =>
      simp only [VRs] at h2
      obtain ⟨u', us', he, hy, hys⟩ := h2
      simp only [List.cons.injEq] at he
      obtain ⟨rfl, rfl⟩ := he
      simp only [List.length_cons] at hle
      have := foldl_set o us (k + 1) (cs.setIfInBounds (o + k) u) (l.set (o + k) y) ys (by simpa using h1.set (o + k) hy) hys (by simp; omega)
      simpa [spl, Nat.add_assoc] using this
theorem fill_sound {place : Nat → Option (Nat × Nat)} : ∀ {parts : List (Nat × AV)} {vs : List (Nat × Value)} {l r : List AV} {cs : Array Value}, fillA place l parts = some r → PartsR μ parts vs → VRs μ l cs.toList →
    ∃ cs', Instr.fill place cs vs = some cs' ∧ VRs μ r cs'.toList
  | [], vs, l, r, cs, h, hp, hl => by
    simp only [PartsR] at hp; subst hp
    simp only [fillA, Option.some.injEq] at h; subst h
    exact ⟨cs, rfl, hl⟩
  | (i, a) :: parts, vs, l, r, cs, h, hp, hl => by
    simp only [PartsR] at hp
    obtain ⟨u, us, rfl, hu, hus⟩ := hp
    simp only [fillA] at h
    split at h
    · simp at h
    · rename_i off size hpl
      split at h
      · rename_i hc
        have hcl := hu.cells.length
        have hll := hl.length
        simp at hcl hll
        have := foldl_set (μ := μ) off u.cells.toList 0 cs l a.cells hl hu.cells (by simpa using hc.2)
        obtain ⟨cs', h1, h2⟩ := fill_sound h hus this
        refine ⟨cs', ?_, h2⟩
        simp only [Instr.fill, hpl]
        have n1 : ¬ (u.cells.size ≠ size ∨ off + u.cells.size > cs.size) := by omega
        rw [if_neg (by simpa using n1)]
        rw [← h1]
        congr 1
        rw [← Array.foldl_toList, Array.toList_zipIdx]
      · simp at h

theorem spl_one : ∀ (ys xs : List AV) (o : Nat), xs.all AV.one = true → ys.all AV.one = true → (spl xs o ys).all AV.one = true
  | [], _, _, h, _ => h
  | y :: ys, xs, o, h, hy => by
    simp only [List.all_cons, Bool.and_eq_true] at hy
    refine spl_one ys _ _ ?_ hy.2
    rw [List.all_eq_true] at h ⊢
    intro x hx
    rcases List.mem_or_eq_of_mem_set hx with hx | hx
    · exact h x hx
    · subst hx; exact hy.1

theorem zerosA_length (z : List AV) : ∀ n, (zerosA z n).length = n * z.length
  | 0 => by simp [zerosA]
  | n + 1 => by simp [zerosA, zerosA_length z n, Nat.add_mul]; omega
theorem zerosA_get (z : List AV) : ∀ (n i : Nat), i < n * z.length → (zerosA z n)[i]? = z[i % z.length]?
  | 0, i, h => by omega
  | n + 1, i, h => by
    simp only [zerosA]
    rw [List.getElem?_append]
    split
    · rename_i hi; rw [Nat.mod_eq_of_lt hi]
    · rename_i hi
      rw [zerosA_get z n (i - z.length) (by rw [Nat.add_mul] at h; omega)]
      congr 1
      rw [← Nat.mod_eq_sub_mod (by omega)]
theorem zerosA_one {z : List AV} (h : z.all AV.one = true) : ∀ n, (zerosA z n).all AV.one = true
  | 0 => rfl
  | n + 1 => by
    have := zerosA_one h n
    simp only [zerosA, List.all_append, h, this, Bool.and_self]
theorem made_sound {z : List AV} {c : Array Value} (h : VRs μ z c.toList) (n m : Nat) (hm : m = n * z.length) : VRs μ (zerosA z n) ((Array.range m).map (c[· % c.size]!)).toList := by
  subst hm
  have hl := h.length
  simp at hl
  refine VRs.of_get (by simp [zerosA_length]) fun i a v ha hv => ?_
  have hi : i < n * z.length := by
    rcases Nat.lt_or_ge i (n * z.length) with hi | hi
    · exact hi
    · rw [List.getElem?_eq_none (by rw [zerosA_length]; exact hi)] at ha; simp at ha
  rw [zerosA_get z n i hi] at ha
  obtain ⟨u, h1, h2⟩ := h.get _ a ha
  rw [Array.getElem?_toList, hl] at h1
  rw [Array.toList_map, Array.toList_range, List.getElem?_map, List.getElem?_range hi] at hv
  simp only [Option.map_some, Option.some.injEq] at hv
  rw [getElem!_def, h1] at hv
  simp at hv; subst hv; exact h2
end
end Go.Ev

/- The evaluator's builds, makes, conversions, appends and copies are the machine's. -/
namespace Go.Ev
open Go Go.RowKit
set_option linter.unusedSimpArgs false
set_option linter.unusedVariables false

section
variable {P : Program} {w0 : World} {H : AH} {μ : Mu} {w : World}

theorem build_struct_sound {t : TypeId} {pl : List (Nat × Nat)} {z r : List AV} {parts : List (Nat × AV)} (hp : placesT P t = some pl) (hz : zeroT P t = some z) (h : fillA (fun i => pl[i]?) z parts = some r)
    {vs : Array (Nat × Value)} (hv : PartsR μ parts vs.toList) (w : World) : ∃ u, (Instr.build t vs).run P w = .ok u w ∧ VR μ (.agg r) u := by
  obtain ⟨i, v, hi, hvz, hc⟩ := zeroT_info hz
  obtain ⟨cs', h1, h2⟩ := fill_sound h hv (cvL_sound (μ := μ) hc)
  unfold placesT at hp
  split at hp
  · rename_i fs hd
    refine ⟨.agg cs', run_build w t vs cs' ?_, by simp only [VR]; exact ⟨cs', rfl, h2⟩⟩
    simp only [Program.built, hi, hd, hvz, hp]
    rw [← h1]; congr 1; funext i; simp
  · simp at hp
theorem build_array_sound {t : TypeId} {n : Nat} {e : TypeId} {sz : Nat} {z r : List AV} {parts : List (Nat × AV)} (ha : arrT P t = some (n, e)) (hs : sizeT P e = some sz) (hz : zeroT P t = some z)
    (h : fillA (fun i => some (i * sz, sz)) z parts = some r) {vs : Array (Nat × Value)} (hv : PartsR μ parts vs.toList) (w : World) : ∃ u, (Instr.build t vs).run P w = .ok u w ∧ VR μ (.agg r) u := by
  obtain ⟨i, v, hi, hvz, hc⟩ := zeroT_info hz
  obtain ⟨cs', h1, h2⟩ := fill_sound h hv (cvL_sound (μ := μ) hc)
  obtain ⟨ie, hie, rfl⟩ := sizeT_info hs
  unfold arrT at ha
  split at ha
  · rename_i n' e' hd
    simp only [Option.some.injEq, Prod.mk.injEq] at ha
    obtain ⟨rfl, rfl⟩ := ha
    refine ⟨.agg cs', run_build w t vs cs' ?_, by simp only [VR]; exact ⟨cs', rfl, h2⟩⟩
    simp only [Program.built, hi, hd, hvz, hie]
    exact h1
  · simp at ha

theorem sliceT_desc {t e : TypeId} (h : sliceT P t = some e) : P.underlying t = some (.slice e) := by
  unfold sliceT at h
  split at h
  · simp only [Option.some.injEq] at h; subst h; assumption
  · simp at h

theorem buildSlice_sound (hR : Rel P w0 H μ w) {t e : TypeId} {sz len : Nat} {z r : List AV} {parts : List (Nat × AV)} (ht : sliceT P t = some e) (hs : sizeT P e = some sz) (hz : zeroT P e = some z) (hzl : z.length = sz)
    (hlen : len * sz ≤ 16777216) (h : fillA (fun i => some (i * sz, sz)) (zerosA z len) parts = some r) (hr1 : r.all AV.one = true)
    {vs : Array (Nat × Value)} (hv : PartsR μ parts vs.toList) :
    Does P w0 μ (H.push (.cells e false r)) ((Instr.buildSlice t len vs).run P w) (.slice H.next 0 len) := by
  obtain ⟨i, v, hi, hvz, hc⟩ := zeroT_info hz
  have hm := made_sound (cvL_sound (μ := μ) hc) len (len * sz) (by rw [hzl])
  obtain ⟨cs', h1, h2⟩ := fill_sound h hv hm
  have hsz : cs'.size = len * sz := by
    have e1 := h2.length
    have e2 : r.length = len * sz := by
      have : ∀ (parts : List (Nat × AV)) (l r : List AV), fillA (fun i => some (i * sz, sz)) l parts = some r → r.length = l.length := by
        intro parts
        induction parts with
        | nil => intro l r h; simp [fillA] at h; subst h; rfl
        | cons p parts ih =>
          intro l r h
          obtain ⟨i, a⟩ := p
          simp only [fillA] at h
          split at h
          · rw [ih _ _ h, spl_length]
          · simp at h
      rw [this _ _ _ h, zerosA_length, hzl]
    simp at e1; omega
  have hrun : (Instr.buildSlice t len vs).run P w = .ok (.slice (some ⟨w.heap.size, 0, none⟩) len len) (w.alloc (.cells cs' e)) := by
    have n1 : ¬ (len * sz > 2 ^ 24) := by simpa using hlen
    by_cases h0 : len * sz = 0
    · have e0 : ∀ c : Array Value, (Array.range 0).map (fun x => c[x % c.size]!) = #[] := fun c => by simp
      rw [h0, e0] at h1
      have e1 := e0 #[]
      have e2 : Array.map (fun x => (default : Value)) (Array.range 0) = #[] := by simp
      simp [Instr.buildSlice, run_underlying (sliceT_desc ht), run_sizeOf hs, h0, newRow]
      rw [e2, h1]; simp
    · simp [Instr.buildSlice, run_underlying (sliceT_desc ht), run_sizeOf hs, h0, n1, run_zeroValue hi hvz, newRow]
      have : ¬ (16777216 < len * sz) := by omega
      simp [this, h1]
  rw [hrun]
  exact push_slice hR hs (RowR.of_list hr1 h2) (Nat.le_refl _) (by rw [hsz]; exact Nat.le_refl _)

theorem makeSlice_sound (hR : Rel P w0 H μ w) {t e : TypeId} {sz by_ : Nat} {z : List AV} (ht : sliceT P t = some e) (hs : sizeT P e = some sz) (hb : bytesT P e = some by_) (hz : zeroT P e = some z) (hzl : z.length = sz)
    {kl kc : IntKind} {l c : Int} (h0 : 0 ≤ l) (hlc : l ≤ c) (hc : (by_ : Int) * c ≤ 281474976710656) (h63 : c ≤ 281474976710656) :
    Does P w0 μ (H.push (.cells e false (zerosA z c.toNat))) ((Instr.makeSlice t (.int kl l) (.int kc c)).run P w) (.slice H.next 0 l.toNat) := by
  obtain ⟨i, v, hi, hvz, hcv⟩ := zeroT_info hz
  obtain ⟨i1, hi1, rfl⟩ := sizeT_info hs
  obtain ⟨i2, hi2, rfl⟩ := bytesT_info hb
  rw [hi] at hi1 hi2; simp only [Option.some.injEq] at hi1 hi2; subst hi1; subst hi2
  rw [run_make w t e i v (sliceT_desc ht) hi hvz kl kc l c h0 hlc hc (by omega)]
  have hm := made_sound (cvL_sound (μ := μ) hcv) c.toNat (c.toNat * i.size) (by rw [hzl])
  refine push_slice hR hs (RowR.of_list (zerosA_one (cvL_one hcv) _) ?_) (by omega) (by rw [size_madeCells]; exact Nat.le_refl _)
  exact hm

theorem bytesC_R (s : ByteArray) : VRs μ (bytesC s) (byteCells s) := by
  unfold bytesC byteCells
  refine VRs.of_get (by simp) fun i a v ha hv => ?_
  rw [List.getElem?_map] at ha hv
  cases hi : s.data.toList[i]? with
  | none => rw [hi] at ha; simp at ha
  | some b => rw [hi] at ha hv; simp at ha hv; subst ha; subst hv; simp [byteC, VR]
theorem bytesC_one (s : ByteArray) : (bytesC s).all AV.one = true := by
  unfold bytesC
  rw [List.all_map, List.all_eq_true]
  intro x _; rfl
theorem bytesC_length (s : ByteArray) : (bytesC s).length = s.size := by
  unfold bytesC; rw [List.length_map, Array.length_toList]; rfl

theorem rowOf_sound (hR : Rel P w0 H μ w) {sz b o n : Nat} {l : List AV} (h : rowOf sz H (.slice b o n) = some l) {e : TypeId} {ro : Bool} {xs : List AV} (hb : H.get b = some (.cells e ro xs)) {L : Loc} (hL : μ b = some L) :
    ∃ vs : List Value, vs.length = n * sz ∧ (∀ j v, vs[j]? = some v → w.cell? ⟨L.c, L.base + o + j, none⟩ = some v) ∧ VRs μ l vs ∧ l.all AV.one = true := by
  simp only [rowOf, hb] at h
  split at h
  · rename_i hle
    simp only [Option.some.injEq] at h; subst h
    obtain ⟨vs, h1, h2, h3⟩ := row_in hR hb hL o (n * sz) hle
    refine ⟨vs, h1, h2, h3, ?_⟩
    have := hR.one hb
    rw [List.all_eq_true] at this ⊢
    exact fun x hx => this x (List.mem_of_mem_drop (List.mem_of_mem_take hx))
  · simp at h
theorem one_of {l : List AV} {vs : List Value} (h : VRs μ l vs) (h1 : l.all AV.one = true) : ∀ u ∈ vs, u.oneCell' = true := by
  intro u hu
  obtain ⟨i, hi, rfl⟩ := List.mem_iff_getElem.1 hu
  have hi' : i < l.length := by rw [h.length]; exact hi
  obtain ⟨u', hu', hr⟩ := h.get i l[i] (by simp [hi'])
  rw [List.getElem?_eq_getElem hi] at hu'; simp at hu'; subst hu'
  exact hr.one (List.all_eq_true.1 h1 _ (List.getElem_mem hi'))

/-- what a slice shows, as the machine reads it -/
theorem src_sound (hR : Rel P w0 H μ w) {sz : Nat} {tx : TypeId} {x : AV} {m : Nat} {news : List AV} (h : newsA P sz tx x H = some (m, news)) {v : Value} (hx : VR μ x v) :
    ∃ vs, Src P sz tx v m vs w ∧ VRs μ news vs ∧ news.all AV.one = true := by
  unfold newsA at h
  split at h
  · rename_i e hd
    simp only [Option.some.injEq, Prod.mk.injEq] at h
    obtain ⟨rfl, rfl⟩ := h
    simp only [VR] at hx; subst hx
    exact ⟨[], Src.ofNil w hd 0, by simp [VRs], rfl⟩
  · rename_i e b o n hd
    simp only [Option.map_eq_some_iff, Prod.mk.injEq] at h
    obtain ⟨l, hl, rfl, rfl⟩ := h
    simp only [VR] at hx
    obtain ⟨L, cap, a, h1, rfl, h2, h3⟩ := hx
    cases hb : H.get b with
    | none => simp [rowOf, hb] at hl
    | some y =>
      cases y with
      | map q => simp [rowOf, hb] at hl
      | res => simp [rowOf, hb] at hl
      | cells e' ro xs =>
        obtain ⟨vs, k1, k2, k3, k4⟩ := rowOf_sound hR hl hb h1
        by_cases hcap : cap = 0
        · have hn : n = 0 := by omega
          subst hn
          simp at k1; subst k1
          exact ⟨[], Src.ofSlice w hd a 0 cap [] (by simp) (by simp) (by simp), k3, k4⟩
        · obtain ⟨rfl, _⟩ := h3 hcap
          exact ⟨vs, Src.ofSlice w hd _ n cap vs k1 (fun j u hj => by rw [Addr.add_lit]; exact k2 j u hj) (one_of k3 k4), k3, k4⟩
  · rename_i s hd
    split at h
    · rename_i hsz
      subst hsz
      simp only [Option.some.injEq, Prod.mk.injEq] at h
      obtain ⟨rfl, rfl⟩ := h
      simp only [VR] at hx; subst hx
      exact ⟨_, Src.ofString w hd s, bytesC_R s, bytesC_one s⟩
    · simp at h
  · simp at h
theorem news_len {sz : Nat} {tx : TypeId} {x : AV} {m : Nat} {news : List AV} {vs : List Value} {v : Value} (hs : Src P sz tx v m vs w) (h : VRs μ news vs) : news.length = m * sz := by
  rw [h.length, hs.newsLen]
end
end Go.Ev

/- The evaluator's append is the machine's. -/
namespace Go.Ev
open Go Go.RowKit
set_option linter.unusedSimpArgs false
set_option linter.unusedVariables false

def setsA (cs : Array Value) (o : Nat) : List Value → Array Value
  | [] => cs
  | v :: vs => setsA (cs.setIfInBounds o v) (o + 1) vs
theorem setsA_size : ∀ (vs : List Value) (cs : Array Value) (o : Nat), (setsA cs o vs).size = cs.size
  | [], _, _ => rfl
  | v :: vs, cs, o => by simp [setsA, setsA_size vs]
theorem setsA_lo : ∀ (vs : List Value) (cs : Array Value) (o i : Nat), i < o → (setsA cs o vs)[i]? = cs[i]?
  | [], _, _, _, _ => rfl
  | v :: vs, cs, o, i, h => by
    simp only [setsA]
    rw [setsA_lo vs _ _ _ (by omega), Array.getElem?_setIfInBounds, if_neg (by omega)]
theorem setsA_in : ∀ (vs : List Value) (cs : Array Value) (o j : Nat), o + vs.length ≤ cs.size → j < vs.length → (setsA cs o vs)[o + j]? = vs[j]?
  | [], _, _, _, _, h => by simp at h
  | v :: vs, cs, o, 0, hl, h => by
    simp only [setsA, Nat.add_zero, List.getElem?_cons_zero]
    rw [setsA_lo vs _ _ _ (by omega), Array.getElem?_setIfInBounds]
    simp only [List.length_cons] at hl
    simp; omega
  | v :: vs, cs, o, j + 1, hl, h => by
    simp only [List.length_cons] at hl h
    have := setsA_in vs (cs.setIfInBounds o v) (o + 1) j (by simp; omega) (by omega)
    simp only [setsA, List.getElem?_cons_succ]
    rw [← this]; congr 1; omega
theorem heap_sets (c : Nat) : ∀ (vs : List Value) (w : World) (o : Nat) {cs : Array Value} {e : TypeId} {fz : Nat × Nat}, w.heap[c]? = some (.cells cs e fz) → (w.setCells c o vs).heap[c]? = some (.cells (setsA cs o vs) e fz)
  | [], _, _, _, _, _, h => h
  | v :: vs, w, o, cs, e, fz, h => by
    simp only [World.setCells, setsA]
    exact heap_sets c vs _ _ (heap_set w c o v h)
theorem heap_sets_ne (c : Nat) : ∀ (vs : List Value) (w : World) (o : Nat) {k : Nat}, k ≠ c → (w.setCells c o vs).heap[k]? = w.heap[k]?
  | [], _, _, _, _ => rfl
  | v :: vs, w, o, k, h => by
    simp only [World.setCells]
    rw [heap_sets_ne c vs _ _ h, heap_set_ne w c o v h]
theorem below_sets {B : Nat} {a : World} (c : Nat) (hc : B ≤ c) : ∀ (vs : List Value) (w : World) (o : Nat), Below B a w → Below B a (w.setCells c o vs)
  | [], _, _, h => h
  | v :: vs, w, o, h => below_sets c hc vs _ _ (h.setCell (p := ⟨c, o, none⟩) hc v)

section
variable {P : Program} {w0 : World} {H : AH} {μ : Mu} {w : World}

theorem zeroCells_size (z : Array Value) (n : Nat) : (Builtin.zeroCells z n).size = n * z.size := by simp [Builtin.zeroCells]

theorem app_grow (hR : Rel P w0 H μ w) {t tx ty e : TypeId} {i : TypeInfo} {z : Value} (ht : P.underlying t = some (.slice e)) (hi : P.info? e = some i) (hz : i.zero = some z) (hzs : z.cells.size = i.size)
    {base : Option Addr} {n cap m : Nat} {old news : List AV} {olds vs : List Value} (hold : (Builtin.firstCells i.size n (.slice base n cap)).run P w.drew = .ok olds.toArray w.drew) (hoR : VRs μ old olds) (ho1 : old.all AV.one = true) (hol : olds.length = n * i.size)
    {v : Value} (hs : Src P i.size tx v m vs w) (hnR : VRs μ news vs) (hn1 : news.all AV.one = true) (hg : cap < n + m)
    (hb : (n + m) * i.bytes ≤ 70368744177664) (hm : n + m ≤ 70368744177664) :
    Does P w0 μ (H.push (.cells e false (old ++ news))) ((Builtin.append_ #[t, tx] ty #[.slice base n cap, v]).run P w) (.slice H.next 0 (n + m)) := by
  rw [run_append_grow_src w t tx ty e i z ht hi hz base n cap olds hold v m vs hs hg (by omega) (growslice_fits hg (by omega))]
  have hle : n + m ≤ grownCap w (n + m) cap e := by
    simp [grownCap, Question.cut]
  have hsz : ((olds ++ vs).toArray ++ Builtin.zeroCells z.cells (grownCap w (n + m) cap e - (n + m))).size = grownCap w (n + m) cap e * i.size := by
    simp only [Array.size_append, List.size_toArray, List.length_append, zeroCells_size, hzs, hol, hs.newsLen]
    rw [← Nat.add_mul, ← Nat.add_mul]; congr 1; omega
  have hap := hoR.append hnR
  refine push_slice (hR.drew) (sz := i.size) (by simp [sizeT, hi]) ?_ hle (by rw [hsz]; exact Nat.le_refl _)
  refine ⟨by simp only [List.all_append, ho1, hn1, Bool.and_self], by rw [hsz, Nat.zero_add, hap.length, List.length_append, hol, hs.newsLen, ← Nat.add_mul]; exact Nat.mul_le_mul_right _ hle, fun j a ha => ?_⟩
  obtain ⟨u, h1, h2⟩ := hap.get j a ha
  refine ⟨u, ?_, h2⟩
  have hj : j < (olds ++ vs).length := by
    rcases Nat.lt_or_ge j (olds ++ vs).length with hj | hj
    · exact hj
    · rw [List.getElem?_eq_none hj] at h1; simp at h1
  rw [Nat.zero_add, Array.getElem?_append_left (by simpa using hj)]
  simpa using h1

theorem appA_sound (hR : Rel P w0 H μ w) {t tx : TypeId} {s x r : AV} {H' : AH} (h : appA P t tx s x H = some (r, H')) {u v : Value} (hs : VR μ s u) (hx : VR μ x v) (ty : TypeId) :
    Does P w0 μ H' ((Builtin.append_ #[t, tx] ty #[u, v]).run P w) r := by
  unfold appA at h
  split at h
  · rename_i e ht
    have ht' := sliceT_desc ht
    split at h
    · rename_i sz by_ zl hsz hby hzl
      split at h
      · rename_i hzlen
        obtain ⟨i, hi, rfl⟩ := sizeT_info hsz
        obtain ⟨i2, hi2, rfl⟩ := bytesT_info hby
        rw [hi] at hi2; simp only [Option.some.injEq] at hi2; subst hi2
        obtain ⟨i3, z, hi3, hz, hzc⟩ := zeroT_info hzl
        rw [hi] at hi3; simp only [Option.some.injEq] at hi3; subst hi3
        have hzs : z.cells.size = i.size := by
          have := (cvL_sound (μ := μ) hzc).length
          simp at this; omega
        split at h
        · rename_i m news hnews
          obtain ⟨vs, hsrc, hnR, hn1⟩ := src_sound hR hnews hx
          split at h
          · rename_i hm0
            subst hm0
            have hv0 : vs = [] := by
              have := hsrc.newsLen
              simpa using this
            subst hv0
            split at h
            · rename_i hsl
              simp only [Option.some.injEq, Prod.mk.injEq] at h
              obtain ⟨rfl, rfl⟩ := h
              simp only [VR] at hs; subst hs
              have := run_append_nothing (P := P) w t tx ty e i ht' hi none 0 0 (Nat.le_refl _) v hsrc
              exact Does.same hR ⟨_, this, by simp only [VR]⟩
            · rename_i b o n
              simp only [Option.some.injEq, Prod.mk.injEq] at h
              obtain ⟨rfl, rfl⟩ := h
              have hs' := hs
              simp only [VR] at hs'
              obtain ⟨L, cap, a, h1, rfl, h2, h3⟩ := hs'
              have := run_append_nothing (P := P) w t tx ty e i ht' hi (some a) n cap h2 v hsrc
              exact Does.same hR ⟨_, this, hs⟩
            · simp at h
          · rename_i hm0
            split at h
            · split at h
              · rename_i hc
                simp only [Option.some.injEq, Prod.mk.injEq] at h
                obtain ⟨rfl, rfl⟩ := h
                simp only [VR] at hs; subst hs
                have := app_grow hR (ty := ty) ht' hi hz hzs (base := none) (n := 0) (cap := 0) (old := []) (olds := []) (run_firstCells_none w.drew i.size 0 0 0) (by simp [VRs]) rfl (by simp) hsrc hnR hn1 (by omega) (by simpa using hc.1) (by simpa using hc.2)
                simpa using this
              · simp at h
            · rename_i b o n
              split at h
              · rename_i e' xs hb
                split at h
                · rename_i hc
                  obtain ⟨rfl, hle, hcb, hcm⟩ := hc
                  simp only [Option.some.injEq, Prod.mk.injEq] at h
                  obtain ⟨rfl, rfl⟩ := h
                  simp only [VR] at hs
                  obtain ⟨L, cap, a, h1, rfl, h2, h3⟩ := hs
                  obtain ⟨L', cs, fz, e2, g1, g2, g3, g4, ⟨g5, g7⟩, g6⟩ := hR.blk b _ hb
                  rw [h1] at g1; simp only [Option.some.injEq] at g1; subst g1
                  rw [hi] at g6; simp only [Option.map_some, Option.some.injEq] at g6
                  obtain ⟨olds, k1, k2, k3⟩ := row_in hR hb h1 o (n * i.size) hle
                  have ko : ((xs.drop o).take (n * i.size)).all AV.one = true := by
                    have := g4.1
                    rw [List.all_eq_true] at this ⊢
                    exact fun x hx => this x (List.mem_of_mem_drop (List.mem_of_mem_take hx))
                  by_cases hroom : n + m ≤ cap
                  · obtain ⟨rfl, h4⟩ := h3 (by omega)
                    rw [← g6] at h4
                    have hnl := hsrc.newsLen
                    have hbd : L.base + o + n * i.size + vs.length ≤ cs.size := by
                      have : (n + m) * i.size ≤ cap * i.size := Nat.mul_le_mul_right _ hroom
                      rw [Nat.add_mul] at this
                      omega
                    have hrun := run_append_room_src (P := P) w t tx ty e' i ht' hi L.c (L.base + o) n cap v m vs hsrc hroom
                      (fun j hj => by rw [cell_of w _ _ g2]; simp; omega) (fun j hj => frozen_of w _ _ g2 g5 (by omega))
                    rw [hrun]
                    have eb : (Loc.mk L.c (L.base + o) L.n L.sz).base = L.base + o := rfl
                    refine ⟨_, _, muPush μ H.next ⟨L.c, L.base + o, L.n, L.sz⟩, rfl, hR.ext _, ?_, ?_⟩
                    · refine (hR.kill b).name (L := ⟨L.c, L.base + o, L.n, L.sz⟩) (below_sets L.c g7 _ _ _ hR.below) (fun k hk _ => heap_sets_ne L.c _ _ _ hk) ?_ ?_
                      · intro b' x' L2 hb' hx' hL2
                        rw [AH.kill_get] at hb'
                        split at hb'
                        · simp at hb'
                        · rename_i hne
                          exact hR.sep b _ hb rfl b' x' hne hb' hx' L L2 h1 hL2
                      · refine ⟨_, setsA cs (L.base + o + n * i.size) vs, fz, e2, muPush_self _ _ _, heap_sets L.c vs w _ g2, by rw [setsA_size]; exact g3, ⟨?_, ?_, ?_⟩, ⟨by rw [setsA_size]; exact g5, g7⟩, by rw [hi]; simp [g6]⟩
                        · simp only [List.all_append, ko, hn1, Bool.and_self]
                        · have e1 := k3.length
                          have e2 := hnR.length
                          rw [setsA_size, List.length_append]
                          omega
                        · intro j y hj
                          have hlen := k3.length
                          rw [List.getElem?_append] at hj
                          split at hj
                          · rename_i hj1
                            obtain ⟨q, hq1, hq2⟩ := k3.get j y hj
                            refine ⟨q, ?_, VR.mono (hR.ext _) _ _ hq2⟩
                            rw [setsA_lo _ _ _ _ (by omega)]
                            have := k2 j q hq1
                            rwa [cell_of w _ _ g2] at this
                          · rename_i hj1
                            obtain ⟨q, hq1, hq2⟩ := hnR.get _ y hj
                            refine ⟨q, ?_, VR.mono (hR.ext _) _ _ hq2⟩
                            have hjlt : j - ((xs.drop o).take (n * i.size)).length < vs.length := by
                              rcases Nat.lt_or_ge (j - ((xs.drop o).take (n * i.size)).length) vs.length with hh | hh
                              · exact hh
                              · rw [List.getElem?_eq_none hh] at hq1; simp at hq1
                            have := setsA_in vs cs (L.base + o + n * i.size) _ hbd hjlt
                            rw [← hq1, ← this]
                            congr 1; omega
                    · simp only [VR]
                      refine ⟨_, cap, _, muPush_self _ _ _, rfl, by omega, fun _ => ⟨by simp, ?_⟩⟩
                      simp only [← g6]; omega
                  · have hold : (Builtin.firstCells i.size n (.slice (some a) n cap)).run P w.drew = .ok olds.toArray w.drew := by
                      refine run_firstCells_some w.drew i.size n a n cap olds k1 fun j q hj => ?_
                      by_cases hcap : cap = 0
                      · have : n = 0 := by omega
                        subst this
                        simp at k1; subst k1; simp at hj
                      · obtain ⟨rfl, _⟩ := h3 hcap
                        rw [Addr.add_lit]
                        exact k2 j q hj
                    exact app_grow (hR.kill b) ht' hi hz hzs hold k3 ko k1 hsrc hnR hn1 (by omega) hcb hcm
                · simp at h
              · simp at h
            · simp at h
        · simp at h
      · simp at h
    · simp at h
  · simp at h

/-! append of so many zeros -/
structure SrcZ (P : Program) (i : TypeInfo) (z : Value) (t tx ty e : TypeId) (v : Value) (m : Nat) (vs : List Value) : Prop where
  nothing : m = 0 → ∀ (w : World) base n cap, n ≤ cap → (Builtin.append_ #[t, tx] ty #[.slice base n cap, v]).run P w = .ok (.slice base n cap) w
  room : m ≠ 0 → ∀ (w : World) b off sLen sCap, sLen + m ≤ sCap → (∀ j, j < vs.length → (w.cell? ⟨b, off + sLen * i.size + j, none⟩).isSome = true) → (∀ j, j < vs.length → w.frozen? ⟨b, off + sLen * i.size + j, none⟩ = false) →
    (Builtin.append_ #[t, tx] ty #[.slice (some ⟨b, off, none⟩) sLen sCap, v]).run P w = .ok (.slice (some ⟨b, off, none⟩) (sLen + m) sCap) (w.setCells b (off + sLen * i.size) vs)
  grow : m ≠ 0 → ∀ (w : World) base sLen sCap (olds : List Value), (Builtin.firstCells i.size sLen (.slice base sLen sCap)).run P w.drew = .ok olds.toArray w.drew → sCap < sLen + m → ((sLen + m : Nat) : Int) ≤ 9223372036854775807 →
    Builtin.nextslicecap (sLen + m) sCap * i.bytes ≤ 281474976710656 →
    (Builtin.append_ #[t, tx] ty #[.slice base sLen sCap, v]).run P w =
      .ok (.slice (some ⟨w.heap.size, 0, none⟩) (sLen + m) (grownCap w (sLen + m) sCap e))
        (w.drew.alloc (.cells ((olds ++ vs).toArray ++ Builtin.zeroCells z.cells (grownCap w (sLen + m) sCap e - (sLen + m))) e))
  newsLen : vs.length = m * i.size
theorem srcZ {t tx ty e : TypeId} {i : TypeInfo} {z : Value} {k : Int} {kd kd' : IntKind} (ht : P.underlying t = some (.slice e)) (hk : P.underlying tx = some (.int kd')) (hi : P.info? e = some i) (hz : i.zero = some z) (hzs : z.cells.size = i.size) (hone : ∀ u ∈ z.cells.toList, u.oneCell' = true) (h0 : 0 ≤ k) (h1 : k ≤ 70368744177664) (hb : k.toNat * i.bytes ≤ 70368744177664) :
    SrcZ P i z t tx ty e (.int kd k) k.toNat (Builtin.zeroCells z.cells k.toNat).toList := by
  have hw : IntKind.i64.wrap k = k := by rw [IntKind.wrap_i64]; omega
  have hneg : ¬ (k < 0) := by omega
  have hbig : ¬ (281474976710656 < k * i.bytes) := by
    have : k * i.bytes = ((k.toNat * i.bytes : Nat) : Int) := by rw [Int.natCast_mul, Int.toNat_of_nonneg h0]
    omega
  have hnl : (Builtin.zeroCells z.cells k.toNat).toList.length = k.toNat * i.size := by simp [zeroCells_size, hzs]
  have hm : ∀ u ∈ (Builtin.zeroCells z.cells k.toNat).toList, u.oneCell' = true := by
    intro u hu
    simp only [Builtin.zeroCells, Array.toList_map, List.mem_map] at hu
    obtain ⟨j, hj, rfl⟩ := hu
    simp at hj
    refine hone _ ?_
    have hp : 0 < z.cells.size := by
      rcases Nat.eq_zero_or_pos z.cells.size with h | h
      · rw [h] at hj; simp at hj
      · exact h
    have hlt : j % z.cells.size < z.cells.size := Nat.mod_lt _ hp
    rw [getElem!_pos z.cells _ hlt]
    exact Array.getElem_mem_toList hlt
  refine ⟨?_, ?_, ?_, hnl⟩
  · intro hm0 w base n cap hle
    have : k = 0 := by omega
    subst this
    cases base <;> simp [Builtin.append_, run_underlying ht, run_underlying hk, sizeOf, typeInfo, hi, asInt, asIntOf, hw, hle, storeCells]
  · intro hm0 w b off sLen sCap hroom hc hf
    have hst := run_storeCells_cells (P := P) b (off + sLen * i.size) (Builtin.zeroCells z.cells k.toNat).toList 0 w (by simpa using hc) (by simpa using hf) hm
    simp only [Nat.add_zero] at hst
    by_cases hsz : k.toNat * i.size = 0
    · have hnil : (Builtin.zeroCells z.cells k.toNat).toList = [] := List.eq_nil_of_length_eq_zero (by rw [hnl, hsz])
      rw [hnil] at hst ⊢
      simp [Builtin.append_, run_underlying ht, run_underlying hk, sizeOf, typeInfo, hi, asInt, asIntOf, hw, hneg, hbig, hroom, zeroValue, hz, Addr.add_lit, hsz, hst]
    · simp [Builtin.append_, run_underlying ht, run_underlying hk, sizeOf, typeInfo, hi, asInt, asIntOf, hw, hneg, hbig, hroom, zeroValue, hz, Addr.add_lit, hsz, hst]
  · intro hm0 w base sLen sCap olds hold hg h63 hfit
    have hn : ¬ (sLen + k.toNat ≤ sCap) := by omega
    have h63' : ¬ (9223372036854775807 < ((sLen : Int) + max k 0)) := by omega
    have h48' : ¬ (281474976710656 < Builtin.nextslicecap (sLen + k.toNat) sCap * i.bytes) := by omega
    by_cases hsz : k.toNat * i.size = 0
    · have hnil : (Builtin.zeroCells z.cells k.toNat).toList = [] := List.eq_nil_of_length_eq_zero (by rw [hnl, hsz])
      rw [hnil]
      simp [Builtin.append_, run_underlying ht, run_underlying hk, sizeOf, typeInfo, zeroValue, hi, hz, asInt, asIntOf, hw, hneg, hbig, hn, h63', h48', hsz, Question.forced, hold, newRow, grownCap]
    · simp [Builtin.append_, run_underlying ht, run_underlying hk, sizeOf, typeInfo, zeroValue, hi, hz, asInt, asIntOf, hw, hneg, hbig, hn, h63', h48', hsz, Question.forced, hold, newRow, grownCap]
      congr 2
      apply Array.ext'
      simp [List.append_assoc]
theorem appZ_grow (hR : Rel P w0 H μ w) {t tx ty e : TypeId} {i : TypeInfo} {z : Value} (ht : P.underlying t = some (.slice e)) (hi : P.info? e = some i) (hz : i.zero = some z) (hzs : z.cells.size = i.size)
    {base : Option Addr} {n cap m : Nat} {old news : List AV} {olds vs : List Value} (hold : (Builtin.firstCells i.size n (.slice base n cap)).run P w.drew = .ok olds.toArray w.drew) (hoR : VRs μ old olds) (ho1 : old.all AV.one = true) (hol : olds.length = n * i.size)
    {v : Value} (hs : SrcZ P i z t tx ty e v m vs) (hm0 : m ≠ 0) (hnR : VRs μ news vs) (hn1 : news.all AV.one = true) (hg : cap < n + m)
    (hb : (n + m) * i.bytes ≤ 70368744177664) (hm : n + m ≤ 70368744177664) :
    Does P w0 μ (H.push (.cells e false (old ++ news))) ((Builtin.append_ #[t, tx] ty #[.slice base n cap, v]).run P w) (.slice H.next 0 (n + m)) := by
  rw [hs.grow hm0 w base n cap olds hold hg (by omega) (growslice_fits hg (by omega))]
  have hle : n + m ≤ grownCap w (n + m) cap e := by
    simp [grownCap, Question.cut]
  have hsz : ((olds ++ vs).toArray ++ Builtin.zeroCells z.cells (grownCap w (n + m) cap e - (n + m))).size = grownCap w (n + m) cap e * i.size := by
    simp only [Array.size_append, List.size_toArray, List.length_append, zeroCells_size, hzs, hol, hs.newsLen]
    rw [← Nat.add_mul, ← Nat.add_mul]; congr 1; omega
  have hap := hoR.append hnR
  refine push_slice (hR.drew) (sz := i.size) (by simp [sizeT, hi]) ?_ hle (by rw [hsz]; exact Nat.le_refl _)
  refine ⟨by simp only [List.all_append, ho1, hn1, Bool.and_self], by rw [hsz, Nat.zero_add, hap.length, List.length_append, hol, hs.newsLen, ← Nat.add_mul]; exact Nat.mul_le_mul_right _ hle, fun j a ha => ?_⟩
  obtain ⟨u, h1, h2⟩ := hap.get j a ha
  refine ⟨u, ?_, h2⟩
  have hj : j < (olds ++ vs).length := by
    rcases Nat.lt_or_ge j (olds ++ vs).length with hj | hj
    · exact hj
    · rw [List.getElem?_eq_none hj] at h1; simp at h1
  rw [Nat.zero_add, Array.getElem?_append_left (by simpa using hj)]
  simpa using h1

theorem appZ_sound (hR : Rel P w0 H μ w) {t tx : TypeId} {s x r : AV} {H' : AH} (hI : isIntT P tx = true) (h : appZ P t s x H = some (r, H')) {u v : Value} (hs : VR μ s u) (hx : VR μ x v) (ty : TypeId) :
    Does P w0 μ H' ((Builtin.append_ #[t, tx] ty #[u, v]).run P w) r := by
  unfold appZ at h
  obtain ⟨kd', hkd⟩ : ∃ kd', P.underlying tx = some (.int kd') := by
    unfold isIntT at hI
    split at hI
    · rename_i k hk; exact ⟨k, hk⟩
    · simp at hI
  split at h
  · rename_i e kd k ht
    have ht' := sliceT_desc ht
    split at h
    · rename_i sz by_ zl hsz hby hzl
      split at h
      · rename_i hzc0
        obtain ⟨hzlen, hk0, hk1⟩ := hzc0
        obtain ⟨i, hi, rfl⟩ := sizeT_info hsz
        obtain ⟨i2, hi2, rfl⟩ := bytesT_info hby
        rw [hi] at hi2; simp only [Option.some.injEq] at hi2; subst hi2
        obtain ⟨i3, z, hi3, hz, hzc⟩ := zeroT_info hzl
        rw [hi] at hi3; simp only [Option.some.injEq] at hi3; subst hi3
        have hzs : z.cells.size = i.size := by
          have := (cvL_sound (μ := μ) hzc).length
          simp at this; omega
        simp only [VR] at hx
        subst hx
        have hzR := cvL_sound (μ := μ) hzc
        have hzone : zl.all AV.one = true := cvL_one hzc
        have hn1 := zerosA_one hzone k.toNat
        have hzc1 : ∀ q ∈ z.cells.toList, q.oneCell' = true := one_of hzR hzone
        have hmk : k.toNat * z.cells.size = k.toNat * zl.length := by rw [hzs, hzlen]
        have hnR : VRs μ (zerosA zl k.toNat) (Builtin.zeroCells z.cells k.toNat).toList := made_sound hzR k.toNat (k.toNat * z.cells.size) hmk
        have hkb : ∀ {n : Nat}, (n + k.toNat) * i.bytes ≤ 70368744177664 → k.toNat * i.bytes ≤ 70368744177664 := fun {n} h => by rw [Nat.add_mul] at h; omega
        have hsrcF := fun hb => srcZ (P := P) (t := t) (tx := tx) (ty := ty) (e := e) (kd := kd) ht' hkd hi hz hzs hzc1 hk0 hk1 hb
        · split at h
          · rename_i hm0
            have hsrc := hsrcF (by rw [hm0]; simp)
            split at h
            · rename_i hsl
              simp only [Option.some.injEq, Prod.mk.injEq] at h
              obtain ⟨rfl, rfl⟩ := h
              simp only [VR] at hs; subst hs
              have := hsrc.nothing hm0 w none 0 0 (Nat.le_refl _)
              exact Does.same hR ⟨_, this, by simp only [VR]⟩
            · rename_i b o n
              simp only [Option.some.injEq, Prod.mk.injEq] at h
              obtain ⟨rfl, rfl⟩ := h
              have hs' := hs
              simp only [VR] at hs'
              obtain ⟨L, cap, a, h1, rfl, h2, h3⟩ := hs'
              have := hsrc.nothing hm0 w (some a) n cap h2
              exact Does.same hR ⟨_, this, hs⟩
            · simp at h
          · rename_i hm0
            split at h
            · split at h
              · rename_i hc
                simp only [Option.some.injEq, Prod.mk.injEq] at h
                obtain ⟨rfl, rfl⟩ := h
                simp only [VR] at hs; subst hs
                have hsrc := hsrcF hc
                have := appZ_grow hR (ty := ty) ht' hi hz hzs (base := none) (n := 0) (cap := 0) (old := []) (olds := []) (run_firstCells_none w.drew i.size 0 0 0) (by simp [VRs]) rfl (by simp) hsrc hm0 hnR hn1 (by omega) (by simpa using hc) (by omega)
                simpa using this
              · simp at h
            · rename_i b o n
              split at h
              · rename_i e' xs hb
                split at h
                · rename_i hc
                  obtain ⟨rfl, hle, hcb, hcm⟩ := hc
                  have hsrc := hsrcF (hkb hcb)
                  generalize hvs : (Builtin.zeroCells z.cells k.toNat).toList = vs at *
                  generalize hmm : k.toNat = m at *
                  simp only [Option.some.injEq, Prod.mk.injEq] at h
                  obtain ⟨rfl, rfl⟩ := h
                  simp only [VR] at hs
                  obtain ⟨L, cap, a, h1, rfl, h2, h3⟩ := hs
                  obtain ⟨L', cs, fz, e2, g1, g2, g3, g4, ⟨g5, g7⟩, g6⟩ := hR.blk b _ hb
                  rw [h1] at g1; simp only [Option.some.injEq] at g1; subst g1
                  rw [hi] at g6; simp only [Option.map_some, Option.some.injEq] at g6
                  obtain ⟨olds, k1, k2, k3⟩ := row_in hR hb h1 o (n * i.size) hle
                  have ko : ((xs.drop o).take (n * i.size)).all AV.one = true := by
                    have := g4.1
                    rw [List.all_eq_true] at this ⊢
                    exact fun x hx => this x (List.mem_of_mem_drop (List.mem_of_mem_take hx))
                  by_cases hroom : n + m ≤ cap
                  · obtain ⟨rfl, h4⟩ := h3 (by omega)
                    rw [← g6] at h4
                    have hnl := hsrc.newsLen
                    have hbd : L.base + o + n * i.size + vs.length ≤ cs.size := by
                      have : (n + m) * i.size ≤ cap * i.size := Nat.mul_le_mul_right _ hroom
                      rw [Nat.add_mul] at this
                      omega
                    have hrun := hsrc.room hm0 w L.c (L.base + o) n cap hroom
                      (fun j hj => by rw [cell_of w _ _ g2]; simp; omega) (fun j hj => frozen_of w _ _ g2 g5 (by omega))
                    rw [hrun]
                    have eb : (Loc.mk L.c (L.base + o) L.n L.sz).base = L.base + o := rfl
                    refine ⟨_, _, muPush μ H.next ⟨L.c, L.base + o, L.n, L.sz⟩, rfl, hR.ext _, ?_, ?_⟩
                    · refine (hR.kill b).name (L := ⟨L.c, L.base + o, L.n, L.sz⟩) (below_sets L.c g7 _ _ _ hR.below) (fun k hk _ => heap_sets_ne L.c _ _ _ hk) ?_ ?_
                      · intro b' x' L2 hb' hx' hL2
                        rw [AH.kill_get] at hb'
                        split at hb'
                        · simp at hb'
                        · rename_i hne
                          exact hR.sep b _ hb rfl b' x' hne hb' hx' L L2 h1 hL2
                      · refine ⟨_, setsA cs (L.base + o + n * i.size) vs, fz, e2, muPush_self _ _ _, heap_sets L.c vs w _ g2, by rw [setsA_size]; exact g3, ⟨?_, ?_, ?_⟩, ⟨by rw [setsA_size]; exact g5, g7⟩, by rw [hi]; simp [g6]⟩
                        · simp only [List.all_append, ko, hn1, Bool.and_self]
                        · have e1 := k3.length
                          have e2 := hnR.length
                          rw [setsA_size, List.length_append]
                          omega
                        · intro j y hj
                          have hlen := k3.length
                          rw [List.getElem?_append] at hj
                          split at hj
                          · rename_i hj1
                            obtain ⟨q, hq1, hq2⟩ := k3.get j y hj
                            refine ⟨q, ?_, VR.mono (hR.ext _) _ _ hq2⟩
                            rw [setsA_lo _ _ _ _ (by omega)]
                            have := k2 j q hq1
                            rwa [cell_of w _ _ g2] at this
                          · rename_i hj1
                            obtain ⟨q, hq1, hq2⟩ := hnR.get _ y hj
                            refine ⟨q, ?_, VR.mono (hR.ext _) _ _ hq2⟩
                            have hjlt : j - ((xs.drop o).take (n * i.size)).length < vs.length := by
                              rcases Nat.lt_or_ge (j - ((xs.drop o).take (n * i.size)).length) vs.length with hh | hh
                              · exact hh
                              · rw [List.getElem?_eq_none hh] at hq1; simp at hq1
                            have := setsA_in vs cs (L.base + o + n * i.size) _ hbd hjlt
                            rw [← hq1, ← this]
                            congr 1; omega
                    · simp only [VR]
                      refine ⟨_, cap, _, muPush_self _ _ _, rfl, by omega, fun _ => ⟨by simp, ?_⟩⟩
                      simp only [← g6]; omega
                  · have hold : (Builtin.firstCells i.size n (.slice (some a) n cap)).run P w.drew = .ok olds.toArray w.drew := by
                      refine run_firstCells_some w.drew i.size n a n cap olds k1 fun j q hj => ?_
                      by_cases hcap : cap = 0
                      · have : n = 0 := by omega
                        subst this
                        simp at k1; subst k1; simp at hj
                      · obtain ⟨rfl, _⟩ := h3 hcap
                        rw [Addr.add_lit]
                        exact k2 j q hj
                    exact appZ_grow (hR.kill b) ht' hi hz hzs hold k3 ko k1 hsrc hm0 hnR hn1 (by omega) hcb hcm
                · simp at h
              · simp at h
            · simp at h
      · simp at h
    · simp at h
  · simp at h
end
end Go.Ev

/- The evaluator's conversions, copies and one operation of the machine. -/
namespace Go.Ev
open Go Go.RowKit
set_option linter.unusedSimpArgs false
set_option linter.unusedVariables false

section
variable {P : Program} {w0 : World} {H : AH} {μ : Mu} {w : World}

theorem u8s_R {μ : Mu} : ∀ {l : List AV} {ns : List Int} {vs : List Value}, u8s l = some ns → VRs μ l vs → vs = ns.map (Value.int .u8)
  | [], ns, vs, h, hv => by simp [u8s] at h; subst h; simp only [VRs] at hv; subst hv; rfl
  | a :: l, ns, vs, h, hv => by
    simp only [VRs] at hv
    obtain ⟨u, us, rfl, ha, hus⟩ := hv
    unfold u8s at h
    split at h
    · rename_i e; simp at e
    · rename_i n l' e
      simp only [List.cons.injEq] at e
      obtain ⟨rfl, rfl⟩ := e
      simp only [Option.map_eq_some_iff] at h
      obtain ⟨ns', h1, rfl⟩ := h
      simp only [VR] at ha; subst ha
      rw [u8s_R h1 hus]; rfl
    · simp at h

theorem convA_sound (hR : Rel P w0 H μ w) {src dst : TypeId} {x r : AV} {H' : AH} (h : convA P src dst x H = some (r, H')) {u : Value} (hx : VR μ x u) : Does P w0 μ H' ((convert src dst u).run P w) r := by
  unfold convA at h
  split at h
  · rename_i d k k' n hs hd
    simp only [Option.some.injEq, Prod.mk.injEq] at h
    obtain ⟨rfl, rfl⟩ := h
    simp only [VR] at hx; subst hx
    exact Does.same hR ⟨_, by simp [convert, run_underlying hs, run_underlying hd, Conv.intToInt]; rfl, by simp only [VR]⟩
  · rename_i d s hs hd
    simp only [Option.some.injEq, Prod.mk.injEq] at h
    obtain ⟨rfl, rfl⟩ := h
    simp only [VR] at hx; subst hx
    refine Does.same hR ⟨.string s, ?_, by simp only [VR]⟩
    cases d <;> simp [convert, run_underlying hs, run_underlying hd]
  · rename_i e hs hd hne
    split at h
    · rename_i he
      split at h
      · rename_i cs hcs
        split at h
        · rename_i ns hns
          simp only [Option.some.injEq, Prod.mk.injEq] at h
          obtain ⟨rfl, rfl⟩ := h
          unfold rowOf at hcs
          split at hcs
          · simp only [Option.some.injEq] at hcs; subst hcs
            simp [u8s] at hns; subst hns
            simp only [VR] at hx; subst hx
            exact Does.same hR ⟨.string .empty, by simp [convert, run_underlying hs, run_underlying hd, run_underlying he, Conv.bytesToString], by simp [VR, strOf]⟩
          · rename_i b o n
            have hcs' : rowOf 1 H (.slice b o n) = some cs := hcs
            cases hb : H.get b with
            | none => simp [hb] at hcs
            | some y =>
              cases y with
              | map q => simp [hb] at hcs
              | res => simp [hb] at hcs
              | cells e' ro xs =>
                simp only [VR] at hx
                obtain ⟨L, cap, a, h1, rfl, h2, h3⟩ := hx
                obtain ⟨vs, k1, k2, k3, k4⟩ := rowOf_sound hR hcs' hb h1
                have hvs := u8s_R hns k3
                simp only [Nat.mul_one] at k1
                have hld : (loadCells a n).run P w = .ok (ns.map (Value.int .u8)).toArray w := by
                  by_cases hcap : cap = 0
                  · have hn0 : n = 0 := by omega
                    subst hn0
                    have : vs = [] := by simpa using k1
                    rw [← hvs, this]; rfl
                  · obtain ⟨rfl, _⟩ := h3 hcap
                    have := run_loadCells_list (P := P) w ⟨L.c, L.base + o, none⟩ vs (fun j v hj => by rw [Addr.add_lit]; exact k2 j v hj)
                    rw [k1, hvs] at this; exact this
                have hrun := run_bytesToString (P := P) w a n cap ns hld
                refine Does.same hR ⟨.string (strOf ns), ?_, by simp only [VR]⟩
                simp only [convert, Sem.run_bind, run_underlying hs, run_underlying hd, run_underlying he, Result.andThen_ok]
                exact hrun
          · simp at hcs
        · simp at h
      · simp at h
    · simp at h
  · rename_i e s hs hd
    split at h
    · rename_i he hsz
      simp only [Option.some.injEq, Prod.mk.injEq] at h
      obtain ⟨rfl, rfl⟩ := h
      simp only [VR] at hx; subst hx
      have hcapf : (Question.appendCap s.size 0 e).forced = false := rfl
      let cap := (Question.appendCap s.size 0 e).cut (w.tape w.drawn (.appendCap s.size 0 e))
      have hcap : s.size ≤ cap := by simp [cap, Question.cut]
      let cells : Array Value := s.data.map (fun b => Value.int .u8 b.toNat) ++ Array.replicate (cap - s.size) (.int .u8 0)
      have hcs : cells.size = cap := by
        simp [cells]
        have : s.data.size = s.size := rfl
        omega
      have hrun : (convert src dst (.string s)).run P w = .ok (.slice (some ⟨w.heap.size, 0, none⟩) s.size cap) ((w.drew.alloc (.cells cells e)).freeze ⟨w.heap.size, cells.size, none⟩ 1) := by
        simp only [convert, Sem.run_bind, run_underlying hs, run_underlying hd, run_underlying he, Result.andThen_ok, Conv.stringToBytes, run_choose, hcapf, newRow, run_newObj]
        have hsh : (w.drew.alloc (.cells cells e)).shape? w.heap.size = some (e, cells.size) := by
          have := heap_alloc_new w.drew (.cells cells e)
          simp only [World.size_drew] at this
          unfold World.shape?; rw [this]
        simp [markStringish]
        simp only [cells, cap] at hsh
        simp [hsh, cells, cap]
      rw [hrun]
      have hrow : RowR μ (bytesC s) cells 0 := by
        refine ⟨bytesC_one s, by rw [bytesC_length, hcs]; omega, fun i a ha => ?_⟩
        obtain ⟨v, h1, h2⟩ := (bytesC_R (μ := μ) s).get i a ha
        refine ⟨v, ?_, h2⟩
        have hi : i < s.data.size := by
          rcases Nat.lt_or_ge i s.data.size with hh | hh
          · exact hh
          · rw [List.getElem?_eq_none (by simp [byteCells]; exact hh)] at h1; simp at h1
        rw [Nat.zero_add, Array.getElem?_append_left (by simpa using hi)]
        rw [← h1, ← Array.getElem?_toList]
        simp [byteCells]
      have hp := hR.drew.push (e := e) hrow (by rw [← hsz]; rfl)
      have hfz : ∀ k, k ≠ w.heap.size → ((w.drew.alloc (.cells cells e)).freeze ⟨w.heap.size, cells.size, none⟩ 1).heap[k]? = (w.drew.alloc (.cells cells e)).heap[k]? := by
        intro k hk
        simp only [World.freeze]
        rw [if_neg (by simp), Array.getElem?_modify]
        rw [if_neg (by omega)]
      have hnew : ((w.drew.alloc (.cells cells e)).freeze ⟨w.heap.size, cells.size, none⟩ 1).heap[w.heap.size]? = some (.cells cells e (cells.size, cells.size + 1)) := by
        simp only [World.freeze]
        rw [if_neg (by simp), Array.getElem?_modify, if_pos rfl]
        have := heap_alloc_new w.drew (.cells cells e)
        simp only [World.size_drew] at this
        rw [this]; simp
      refine ⟨_, _, muPush μ H.next ⟨w.heap.size, 0, cells.size, 1⟩, rfl, hR.ext _, ?_, ?_⟩
      · refine hR.name (L := ⟨w.heap.size, 0, cells.size, 1⟩) ?_ ?_ (fun b x L' hb hx hL' => Nat.ne_of_lt (hR.lt hb hx hL')) ?_
        · have hB := hp.below
          exact ⟨hB.os, hB.tape, hB.output, by simpa [World.freeze] using hB.size, fun k hk => by
            rw [hfz k (by have := hR.below.size; omega)]; exact hB.block k hk⟩
        · intro k hk hlt
          rw [hfz k hk, heap_alloc_old w.drew _ hlt]; rfl
        · refine ⟨_, cells, _, e, muPush_self _ _ _, hnew, rfl, by simpa using hrow.mono (hR.ext _), ⟨?_, hR.below.size⟩, ?_⟩
          · exact .inr (Nat.le_refl _)
          · unfold sizeT at hsz; exact hsz
      · simp only [VR]
        exact ⟨_, cap, _, muPush_self _ _ _, rfl, hcap, fun _ => ⟨by simp, by simp [hcs]⟩⟩
    · simp at h
  · rename_i e0 e b o n hs hd
    split at h
    · rename_i e' xs he hb
      split at h
      · rename_i hc
        obtain ⟨rfl, hn0⟩ := hc
        simp only [Option.some.injEq, Prod.mk.injEq] at h
        obtain ⟨rfl, rfl⟩ := h
        have hee : e0 = e := by rw [hs] at hd; simpa using hd
        subst hee
        have hx' := hx
        simp only [VR] at hx
        obtain ⟨L, cap, a, h1, rfl, h2, h3⟩ := hx
        obtain ⟨rfl, h4⟩ := h3 (by omega)
        obtain ⟨L', cs, fz, e2, hL', hheap, hnn, hrow, ⟨hfz, hge⟩, hsz⟩ := hR.blk b _ hb
        rw [h1] at hL'; simp only [Option.some.injEq] at hL'; subst hL'
        have hsh : w.shape? L.c = some (e2, cs.size) := by unfold World.shape?; rw [hheap]
        have hrun : (convert src src (.slice (some ⟨L.c, L.base + o, none⟩) n cap)).run P w = .ok (.slice (some ⟨L.c, L.base + o, none⟩) n cap) (w.freeze ⟨L.c, cs.size, none⟩ 1) := by
          simp only [convert, Sem.run_bind, run_underlying hs, run_underlying he, Result.andThen_ok]
          simp [markStringish, hsh]
        have hne : ∀ k, k ≠ L.c → (w.freeze ⟨L.c, cs.size, none⟩ 1).heap[k]? = w.heap[k]? := by
          intro k hk
          simp only [World.freeze]
          rw [if_neg (by simp), Array.getElem?_modify, if_neg (by omega)]
        have hself : (w.freeze ⟨L.c, cs.size, none⟩ 1).heap[L.c]? = some (.cells cs e2 (if fz.1 == fz.2 then (cs.size, cs.size + 1) else (min fz.1 cs.size, max fz.2 (cs.size + 1)))) := by
          simp only [World.freeze]
          rw [if_neg (by simp), Array.getElem?_modify, if_pos rfl, hheap]
          rfl
        rw [hrun]
        have hB := hR.below
        have hR2 := hR.change hb rfl h1 (w' := w.freeze ⟨L.c, cs.size, none⟩ 1) (y := .cells e' false xs)
          ⟨hB.os, hB.tape, hB.output, by simpa [World.freeze] using hB.size, fun k hk => by rw [hne k (by omega)]; exact hB.block k hk⟩ (fun k hk _ => hne k hk)
          ⟨L, cs, _, e2, h1, hself, hnn, hrow, ⟨by
            by_cases hf : fz.1 = fz.2
            · simp only [hf, beq_self_eq_true, if_true]; exact .inr (Nat.le_refl _)
            · have : (fz.1 == fz.2) = false := by simpa using hf
              simp only [this]
              rcases hfz with hfz | hfz
              · exact absurd hfz hf
              · exact .inr (by simp; omega), hge⟩, hsz⟩
        rw [AH.set_same H b _ hb] at hR2
        exact ⟨_, _, μ, rfl, Ext.refl _, hR2, hx'⟩
      · simp at h
    · simp at h
  · simp at h
end
end Go.Ev

/- One operation of the evaluator. -/
namespace Go.Ev
open Go Go.RowKit
set_option linter.unusedSimpArgs false
set_option linter.unusedVariables false

/-- is this the key? (integers of one kind, strings, bools) -/
def sameK : AV → AV → Option Bool
  | .int k a, .int k' b => if k = k' then some (a == b) else none
  | .str a, .str b => some (a == b)
  | .bool a, .bool b => some (a == b)
  | _, _ => none
/-- a key's place -/
def findA (k : AV) : List (AV × AV) → Nat → Option (Option (Nat × AV))
  | [], _ => some none
  | (x, v) :: l, i => match sameK k x with
    | some true => some (some (i, v))
    | some false => findA k l (i + 1)
    | none => none
def keyOk (d : TypeDesc) (k : AV) : Bool := match d, k with
  | .int _, .int _ _ => true
  | .string, .str _ => true
  | .bool, .bool _ => true
  | _, _ => false
section
variable (P : Program)
/-- a map's key type (of plain keys) and element type -/
def mapT (t : TypeId) (k : AV) : Option (TypeId × TypeId) := match P.underlying t with
  | some (.map kt et) => match P.underlying kt with
    | some d => if keyOk d k then some (kt, et) else none
    | none => none
  | _ => none
def mapPut (l : List (AV × AV)) (k v : AV) : Option (List (AV × AV)) := match findA k l 0 with
  | some (some (i, _)) => some (l.set i (k, v))
  | some none => some (l ++ [(k, v)])
  | none => none
def updA (t : TypeId) (m k v : AV) (H : AH) : Option AH := match mapT P t k, m with
  | some _, .map b => match H.get b with
    | some (.map l) => (mapPut l k v).map fun l' => H.set b (.map l')
    | _ => none
  | _, _ => none
def lookA (t : TypeId) (m k : AV) (H : AH) (ok : Bool) : Option AV := match mapT P t k with
  | some (_, et) =>
    let l : Option (List (AV × AV)) := match m with
      | .nilMap => some []
      | .map b => match H.get b with
        | some (.map l) => some l
        | _ => none
      | _ => none
    match l with
    | some l => match findA k l 0 with
      | some (some (_, v)) => some (if ok then .tuple [v, .bool true] else v)
      | some none => match zeroV P et with
        | some z => some (if ok then .tuple [z, .bool false] else z)
        | none => none
      | none => none
    | none => none
  | none => none
def delA (t : TypeId) (m k : AV) (H : AH) : Option AH := match mapT P t k, m with
  | some _, .nilMap => some H
  | some _, .map b => match H.get b with
    | some (.map l) => match findA k l 0 with
      | some (some (i, _)) => some (H.set b (.map (l.eraseIdx i)))
      | some none => some H
      | none => none
    | _ => none
  | _, _ => none

def builtA (b : Builtin) (ats : List TypeId) (xs : List AV) (H : AH) : Option (AV × AH) := match b, ats, xs with
  | .len, [t], [x] => (lenA P t x H).map fun r => (r, H)
  | .append, [t, tx], [s, x] => if isIntT P tx = true then appZ P t s x H else appA P t tx s x H
  | .min, _, x :: l => (foldA mn2 x l).map fun r => (r, H)
  | .max, _, x :: l => (foldA mx2 x l).map fun r => (r, H)
  | .delete, t :: _, [m, k] => (delA P t m k H).map fun H' => (U, H')
  | _, _, _ => none

def evOp (op : Op) (τ : Tm) (H : AH) : Option (AV × AH) := match op with
  | .move x => (opnd τ x).map fun r => (r, H)
  | .assign x => (opnd τ x).map fun r => (r, H)
  | .pick c a b => match opnd τ c with
    | some (.bool q) => (if q then opnd τ a else opnd τ b).map fun r => (r, H)
    | _ => none
  | .alloc e => match zeroT P e, sizeT P e with
    | some z, some _ => some (.ptr H.next 0, H.push (.cells e false z))
    | _, _ => none
  | .box e x => match opnd τ x, sizeT P e with
    | some v, some _ => if v.cells.all AV.one then some (.ptr H.next 0, H.push (.cells e false v.cells)) else none
    | _, _ => none
  | .build t parts => match opndP τ parts.toList, zeroT P t with
    | some ps, some z => match placesT P t with
      | some pl => (fillA (fun i => pl[i]?) z ps).map fun r => (.agg r, H)
      | none => match arrT P t with
        | some (_, e) => match sizeT P e with
          | some sz => (fillA (fun i => some (i * sz, sz)) z ps).map fun r => (.agg r, H)
          | none => none
        | none => none
    | _, _ => none
  | .buildSlice t len parts => match opndP τ parts.toList, sliceT P t with
    | some ps, some e => match sizeT P e, zeroT P e with
      | some sz, some z => if z.length = sz ∧ len * sz ≤ 16777216 then match fillA (fun i => some (i * sz, sz)) (zerosA z len) ps with
          | some r => if r.all AV.one then some (.slice H.next 0 len, H.push (.cells e false r)) else none
          | none => none
        else none
      | _, _ => none
    | _, _ => none
  | .load t a => match opnd τ a with
    | some (.ptr b o) => (ldVar P t b o H).map fun r => (r, H)
    | _ => none
  | .store t a x => match opnd τ a, opnd τ x with
    | some (.ptr b o), some v => (stVar P t b o v H).map fun H' => (U, H')
    | _, _ => none
  | .nilCheck x => match opnd τ x with
    | some (.ptr b o) => some (.ptr b o, H)
    | some (.func f fs l) => some (.func f fs l, H)
    | some (.iface t v) => some (.iface t v, H)
    | _ => none
  | .binOp op t x y _ => match opnd τ x, opnd τ y with
    | some a, some b => (binA P (isC x || isC y) op t a b).map fun r => (r, H)
    | _, _ => none
  | .unOp op _ x => match opnd τ x with
    | some a => (unA op a).map fun r => (r, H)
    | none => none
  | .convert s d x => match opnd τ x with
    | some a => convA P s d a H
    | none => none
  | .makeInterface t x => match P.underlying t, opnd τ x with
    | some (.interface _), _ => none
    | some _, some a => some (.iface t a, H)
    | _, _ => none
  | .makeFunc (.func f) first captured => match opndL τ first.toList, opndL τ captured.toList with
    | some a, some b => some (.func f a b, H)
    | _, _ => none
  | .makeMap _ none => some (.map H.next, H.push (.map []))
  | .makeSlice t l c => match opnd τ l, opnd τ c, sliceT P t with
    | some (.int _ l), some (.int _ c), some e => match sizeT P e, bytesT P e, zeroT P e with
      | some sz, some by_, some z => if z.length = sz ∧ 0 ≤ l ∧ l ≤ c ∧ (by_ : Int) * c ≤ 281474976710656 ∧ c ≤ 281474976710656 then
          some (.slice H.next 0 l.toNat, H.push (.cells e false (zerosA z c.toNat))) else none
      | _, _, _ => none
    | _, _, _ => none
  | .slice t x lo hi none => match opnd τ x, opndO τ lo, opndO τ hi with
    | some a, some l, some h => (cutA P t a (some l) (some h) H).map fun r => (r, H)
    | _, _, _ => none
  | .fieldAddr s x f => match opnd τ x, fieldT P s f with
    | some (.ptr b o), some (off, ft) => match sizeT P ft with
      | some n => if n ≠ 0 then some (.ptr b (o + off), H) else none
      | none => none
    | _, _ => none
  | .field s x f => match opnd τ x, fieldT P s f with
    | some (.agg l), some (off, ft) => (partA P ft l off).map fun r => (r, H)
    | _, _ => none
  | .indexAddr t x i => match opnd τ x, opnd τ i with
    | some a, some b => (idxA P t a b).map fun r => (r, H)
    | _, _ => none
  | .index t x i => match opnd τ x, opnd τ i with
    | some a, some b => (indexA P t a b).map fun r => (r, H)
    | _, _ => none
  | .extract x i => match opnd τ x with
    | some (.tuple l) => (l[i]?).map fun r => (r, H)
    | _ => none
  | .lookup t m k ok => match opnd τ m, opnd τ k with
    | some a, some b => (lookA P t a b H ok).map fun r => (r, H)
    | _, _ => none
  | .mapUpdate t m k v => match opnd τ m, opnd τ k, opnd τ v with
    | some a, some b, some c => (updA P t a b c H).map fun H' => (U, H')
    | _, _, _ => none
  | .insert t m k v => match opnd τ m, opnd τ k, opnd τ v with
    | some a, some b, some c => (updA P t a b c H).map fun H' => (U, H')
    | _, _, _ => none
  | .call c => match c.callee with
    | .builtin b => match opndL τ c.args.toList with
      | some xs => builtA P b c.argTypes.toList xs H
      | none => none
    | _ => none
  | _ => none
end

def okOp (n : Nat) (op : Op) : Bool := op.operands.toList.all (okO n)

/-- What one operation that calls no function does. -/
def Does1 (P : Program) (w0 : World) (μ : Mu) (H' : AH) (r : Result Next) (a : AV) : Prop :=
  ∃ u w' μ', (r = .ok (.value u) w' ∨ (u = undef ∧ r = .ok .skip w')) ∧ Ext μ μ' ∧ Rel P w0 H' μ' w' ∧ VR μ' a u

section
variable {P : Program} {w0 : World} {H : AH} {μ : Mu} {w : World}

theorem Does1.of {s : Sem Value} {H' : AH} {a : AV} (h : Does P w0 μ H' (s.run P w) a) : Does1 P w0 μ H' ((do pure (.value (← s)) : Sem Next).run P w) a := by
  obtain ⟨u, w', μ', h1, h2⟩ := h
  exact ⟨u, w', μ', .inl (by simp [h1]), h2⟩
theorem Does1.val (hR : Rel P w0 H μ w) {a : AV} {v : Value} (h : VR μ a v) : Does1 P w0 μ H ((pure (.value v) : Sem Next).run P w) a :=
  ⟨v, w, μ, .inl rfl, Ext.refl _, hR, h⟩
theorem Does1.unit {s : Sem Unit} {H' : AH} {w' : World} {μ' : Mu} (h : s.run P w = .ok () w') (hx : Ext μ μ') (hR : Rel P w0 H' μ' w') : Does1 P w0 μ H' ((do s; pure .skip : Sem Next).run P w) U :=
  ⟨undef, w', μ', .inr ⟨rfl, by simp [h]⟩, hx, hR, by simp only [U, VR]; exact ⟨#[], rfl, by simp [VRs]⟩⟩

end
end Go.Ev

/- The evaluator's maps are the machine's. -/
namespace Go.Ev
open Go Go.RowKit
set_option linter.unusedSimpArgs false
set_option linter.unusedVariables false

section
variable {P : Program} {w0 : World} {H : AH} {μ : Mu} {w : World}

theorem sameK_sound {d : TypeDesc} {x y : AV} {q : Bool} (hk : keyOk d x = true) (h : sameK x y = some q) {u v : Value} (hx : VR μ x u) (hy : VR μ y v) : Instr.sameNow d u v = some q := by
  unfold sameK at h
  split at h
  · simp only [VR] at hx hy; subst hx; subst hy
    cases d <;> simp [keyOk] at hk
    split at h <;> simp at h
    rename_i hkk
    subst h
    simp [Instr.sameNow, hkk]
  · simp only [VR] at hx hy; subst hx; subst hy
    cases d <;> simp [keyOk] at hk
    simpa [Instr.sameNow] using h
  · simp only [VR] at hx hy; subst hx; subst hy
    cases d <;> simp [keyOk] at hk
    simpa [Instr.sameNow] using h
  · simp at h
theorem ba_beq {a b : ByteArray} (h : (a == b) = true) : a = b := by
  have h2 : ByteArray.beq a b = true := h
  unfold ByteArray.beq at h2
  cases a; cases b
  simpa using h2
theorem ba_refl (a : ByteArray) : (a == a) = true := by
  show ByteArray.beq a a = true
  unfold ByteArray.beq; simp
theorem sameK_bits {x y : AV} (h : sameK x y = some true) {u v : Value} (hx : VR μ x u) (hy : VR μ y v) (n : Nat) : Instr.sameBits n v u = true := by
  unfold sameK at h
  split at h
  · simp only [VR] at hx hy; subst hx; subst hy
    split at h <;> simp at h
    rename_i hk
    cases n <;> simp [Instr.sameBits, hk, h]
  · simp only [VR] at hx hy; subst hx; subst hy
    simp only [Option.some.injEq] at h
    have := ba_beq h
    subst this
    cases n <;> simp [Instr.sameBits, ba_refl]
  · simp only [VR] at hx hy; subst hx; subst hy
    simp at h
    cases n <;> simp [Instr.sameBits, h]
  · simp at h

def FoundR (μ : Mu) : Option (Nat × AV) → Option (Nat × Value) → Prop
  | none, none => True
  | some (i, a), some (j, v) => i = j ∧ VR μ a v
  | _, _ => False
theorem findA_sound {d : TypeDesc} {x : AV} {u : Value} (hk : keyOk d x = true) (hx : VR μ x u) : ∀ {l : List (AV × AV)} {es : List MapEntry} {i : Nat} {r : Option (Nat × AV)},
    VRs μ (l.map (·.1)) (es.map (·.key)) → VRs μ (l.map (·.2)) (es.map (·.val)) → findA x l i = some r →
    ∃ r', Instr.findNow d u es i = some r' ∧ FoundR μ r r' ∧ (∀ j a, r = some (j, a) → i ≤ j ∧ ∃ p, l[j - i]? = some p ∧ sameK x p.1 = some true)
  | [], es, i, r, h1, h2, h => by
    simp only [List.map_nil, VRs, List.map_eq_nil_iff] at h1
    subst h1
    simp only [findA, Option.some.injEq] at h; subst h
    exact ⟨none, rfl, trivial, fun j a e => by simp at e⟩
  | (y, v) :: l, es, i, r, h1, h2, h => by
    cases es with
    | nil => simp [VRs] at h1
    | cons e es =>
      simp only [List.map_cons, VRs, List.cons.injEq] at h1 h2
      obtain ⟨_, _, ⟨rfl, rfl⟩, hy, h1⟩ := h1
      obtain ⟨_, _, ⟨rfl, rfl⟩, hv, h2⟩ := h2
      simp only [findA] at h
      split at h
      · rename_i hs
        simp only [Option.some.injEq] at h; subst h
        refine ⟨some (i, e.val), by simp [Instr.findNow, sameK_sound hk hs hx hy], ⟨rfl, hv⟩, fun j a he => ?_⟩
        simp only [Option.some.injEq, Prod.mk.injEq] at he
        obtain ⟨rfl, rfl⟩ := he
        exact ⟨Nat.le_refl _, (y, v), by simp, hs⟩
      · rename_i hs
        obtain ⟨r', k1, k2, k3⟩ := findA_sound hk hx h1 h2 h
        refine ⟨r', by simp [Instr.findNow, sameK_sound hk hs hx hy, k1], k2, fun j a he => ?_⟩
        obtain ⟨k4, p, k5, k6⟩ := k3 j a he
        refine ⟨by omega, p, ?_, k6⟩
        rw [show j - i = (j - (i + 1)) + 1 by omega]
        simpa using k5
      · simp at h

theorem run_checkKey {kt : TypeId} {d : TypeDesc} (hd : P.underlying kt = some d) {x : AV} (hk : keyOk d x = true) {u : Value} (hx : VR μ x u) (e : Bool) (n : Nat) (w : World) : (Instr.checkKey e (n + 1) kt u).run P w = .ok () w := by
  unfold keyOk at hk
  split at hk
  · simp only [VR] at hx; subst hx; simp [Instr.checkKey, run_underlying hd]
  · simp only [VR] at hx; subst hx; simp [Instr.checkKey, run_underlying hd]
  · simp only [VR] at hx; subst hx; simp [Instr.checkKey, run_underlying hd]
  · simp at hk
theorem run_findKey {kt : TypeId} {d : TypeDesc} (hd : P.underlying kt = some d) {u : Value} {es : List MapEntry} {r : Option (Nat × Value)} (h : Instr.findNow d u es 0 = some r) (w : World) : (Instr.findKey kt u es).run P w = .ok r w := by
  simp [Instr.findKey, run_underlying hd, h]
theorem run_getMap {r : Nat} {es : Array MapEntry} {ck : Nat} (h : w.heap[r]? = some (.map es ck)) : (getObj r).run P w = .ok (.map es ck) w := by
  simp [getObj, Sem.run, h]
def World.setObj' (w : World) (r : Nat) (o : Obj) : World := { w with heap := w.heap.setIfInBounds r o }
theorem run_setMap {r : Nat} {es : Array MapEntry} {ck : Nat} (h : w.heap[r]? = some (.map es ck)) (o : Obj) : (setObj r o).run P w = .ok () (World.setObj' w r o) := by
  simp [setObj, Sem.run, h, World.setObj']
theorem setObj'_self {r : Nat} {o o' : Obj} (h : w.heap[r]? = some o) : (World.setObj' w r o').heap[r]? = some o' := by
  have := lt_of_heap h
  simp [World.setObj', this]
theorem setObj'_ne {r k : Nat} {o' : Obj} (h : k ≠ r) : (World.setObj' w r o').heap[k]? = w.heap[k]? := by
  simp only [World.setObj']
  rw [Array.getElem?_setIfInBounds, if_neg (fun e => h e.symm)]
theorem below_setObj {B : Nat} {a : World} (h : Below B a w) {r : Nat} (hr : B ≤ r) (o : Obj) : Below B a (World.setObj' w r o) :=
  ⟨h.os, h.tape, h.output, by simpa [World.setObj'] using h.size, fun k hk => by rw [setObj'_ne (by omega)]; exact h.block k hk⟩

theorem mapT_sound {t : TypeId} {x : AV} {kt et : TypeId} (h : mapT P t x = some (kt, et)) : P.underlying t = some (.map kt et) ∧ ∃ d, P.underlying kt = some d ∧ keyOk d x = true := by
  unfold mapT at h
  split at h
  · rename_i k e hd
    split at h
    · rename_i d hk
      split at h
      · rename_i hok
        simp only [Option.some.injEq, Prod.mk.injEq] at h
        obtain ⟨rfl, rfl⟩ := h
        exact ⟨hd, d, hk, hok⟩
      · simp at h
    · simp at h
  · simp at h

/-- a map's entries are changed -/
theorem Rel.setMap (h : Rel P w0 H μ w) {b : Nat} {l l' : List (AV × AV)} (hb : H.get b = some (.map l)) {L : Loc} (hL : μ b = some L) {es : Array MapEntry} {ck : Nat} (hm : MapR μ l' es) (hge : w0.heap.size ≤ L.c) {o : Obj} (ho : w.heap[L.c]? = some o) :
    Rel P w0 (H.set b (.map l')) μ (World.setObj' w L.c (.map es ck)) :=
  h.change hb rfl hL (below_setObj h.below hge _) (fun k hk _ => setObj'_ne hk) ⟨L, es, ck, hL, setObj'_self ho, hm, hge⟩

theorem MapR.set {l : List (AV × AV)} {es : Array MapEntry} (h : MapR μ l es) (i : Nat) {x v : AV} {u z : Value} (hx : VR μ x u) (hv : VR μ v z) : MapR μ (l.set i (x, v)) (es.modify i fun e => { e with key := u, val := z }) := by
  have e1 : ((es.modify i fun e => { e with key := u, val := z }).toList.map (·.key)) = (es.toList.map (·.key)).set i u := by
    apply List.ext_getElem?
    intro j
    rw [List.getElem?_map, Array.getElem?_toList, Array.getElem?_modify, List.getElem?_set, List.getElem?_map, Array.getElem?_toList]
    by_cases hij : i = j
    · subst hij
      simp only [if_true]
      by_cases hlt : i < es.size
      · simp [hlt]
      · simp [hlt]
    · simp [hij]
  have e2 : ((es.modify i fun e => { e with key := u, val := z }).toList.map (·.val)) = (es.toList.map (·.val)).set i z := by
    apply List.ext_getElem?
    intro j
    rw [List.getElem?_map, Array.getElem?_toList, Array.getElem?_modify, List.getElem?_set, List.getElem?_map, Array.getElem?_toList]
    by_cases hij : i = j
    · subst hij
      simp only [if_true]
      by_cases hlt : i < es.size
      · simp [hlt]
      · simp [hlt]
    · simp [hij]
  refine ⟨?_, ?_⟩
  · rw [e1, List.map_set]; exact h.1.set i hx
  · rw [e2, List.map_set]; exact h.2.set i hv
theorem MapR.push {l : List (AV × AV)} {es : Array MapEntry} (h : MapR μ l es) {x v : AV} {u z : Value} (hx : VR μ x u) (hv : VR μ v z) (n : Nat) : MapR μ (l ++ [(x, v)]) (es.push { key := u, val := z, born := n }) := by
  refine ⟨?_, ?_⟩
  · rw [List.map_append, Array.toList_push, List.map_append]
    exact h.1.append (by simp only [List.map_cons, List.map_nil, VRs]; exact ⟨u, [], rfl, hx, rfl⟩)
  · rw [List.map_append, Array.toList_push, List.map_append]
    exact h.2.append (by simp only [List.map_cons, List.map_nil, VRs]; exact ⟨z, [], rfl, hv, rfl⟩)
theorem VRs.eraseIdx : ∀ {l : List AV} {vs : List Value} (i : Nat), VRs μ l vs → VRs μ (l.eraseIdx i) (vs.eraseIdx i)
  | [], _, i, h => by simp only [VRs] at h; subst h; simp [VRs]
  | a :: l, _, 0, h => by
    simp only [VRs] at h
    obtain ⟨u, us, rfl, _, h3⟩ := h
    simpa using h3
  | a :: l, _, i + 1, h => by
    simp only [VRs] at h
    obtain ⟨u, us, rfl, h2, h3⟩ := h
    simp only [List.eraseIdx_cons_succ, VRs]
    exact ⟨u, _, rfl, h2, VRs.eraseIdx i h3⟩
theorem MapR.erase {l : List (AV × AV)} {es : Array MapEntry} (h : MapR μ l es) (i : Nat) : MapR μ (l.eraseIdx i) (es.eraseIdxIfInBounds i) := by
  have ht : (es.eraseIdxIfInBounds i).toList = es.toList.eraseIdx i := by
    unfold Array.eraseIdxIfInBounds
    split
    · simp
    · rename_i hge
      rw [List.eraseIdx_of_length_le (by simp; omega)]
  have e0 : ∀ {α β : Type} (f : α → β) (l : List α) (i : Nat), (l.eraseIdx i).map f = (l.map f).eraseIdx i := by
    intro α β f l
    induction l with
    | nil => intro i; simp
    | cons a l ih => intro i; cases i <;> simp [ih]
  refine ⟨?_, ?_⟩
  · rw [ht, e0, e0]; exact VRs.eraseIdx i h.1
  · rw [ht, e0, e0]; exact VRs.eraseIdx i h.2

theorem updA_sound (hR : Rel P w0 H μ w) {t : TypeId} {m k v : AV} {H' : AH} (h : updA P t m k v H = some H') {um uk uv : Value} (hm : VR μ m um) (hk : VR μ k uk) (hv : VR μ v uv) :
    ∃ w', (Instr.mapUpdate t um uk uv).run P w = .ok () w' ∧ Rel P w0 H' μ w' := by
  unfold updA at h
  split at h
  · rename_i p b hmt
    obtain ⟨kt, et⟩ := p
    obtain ⟨hd, d, hkd, hok⟩ := mapT_sound hmt
    split at h
    · rename_i l hb
      simp only [Option.map_eq_some_iff] at h
      obtain ⟨l', hl', rfl⟩ := h
      simp only [VR] at hm
      obtain ⟨L, h1, rfl⟩ := hm
      obtain ⟨L', es, ck, g1, g2, g3, g4⟩ := hR.blk b _ hb
      rw [h1] at g1; simp only [Option.some.injEq] at g1; subst g1
      unfold mapPut at hl'
      split at hl'
      · rename_i i a hf
        simp only [Option.some.injEq] at hl'; subst hl'
        obtain ⟨r', k1, k2, k3⟩ := findA_sound hok hk g3.1 g3.2 hf
        cases r' with
        | none => exact k2.elim
        | some r' =>
          obtain ⟨j, z⟩ := r'
          obtain ⟨rfl, k2⟩ := k2
          obtain ⟨_, p, k5, k6⟩ := k3 _ _ rfl
          simp only [Nat.sub_zero] at k5
          obtain ⟨q, hq1, hq2⟩ := g3.1.get i p.1 (by rw [List.getElem?_map, k5]; rfl)
          rw [List.getElem?_map, Array.getElem?_toList] at hq1
          have hbits : ∀ (old : Value), ((es[i]?).map (·.key)).getD uk = old → Instr.sameBits 10000 old uk = true := by
            intro old ho
            subst ho
            rw [hq1]
            exact sameK_bits k6 hk hq2 _
          refine ⟨World.setObj' w L.c (.map (es.modify i fun e => { e with key := uk, val := uv }) ck), ?_, hR.setMap hb h1 (g3.set i hk hv) g4 g2⟩
          have hkeep : (Instr.keyThatStays (((es[i]?).map (·.key)).getD uk) uk).run P w = .ok uk w := by
            unfold Instr.keyThatStays
            rw [if_pos (hbits _ rfl)]; rfl
          simp only [Instr.mapUpdate, Sem.run_bind, run_underlying hd, Result.andThen_ok, run_getMap g2, run_checkKey hkd hok hk false 9999 w, run_findKey hkd k1, hkeep, run_setMap g2]
      · rename_i hf
        simp only [Option.some.injEq] at hl'; subst hl'
        obtain ⟨r', k1, k2, k3⟩ := findA_sound hok hk g3.1 g3.2 hf
        cases r' with
        | some r' => exact k2.elim
        | none =>
          refine ⟨World.setObj' w L.c (.map (es.push { key := uk, val := uv, born := ck }) (ck + 1)), ?_, hR.setMap hb h1 (g3.push hk hv ck) g4 g2⟩
          simp only [Instr.mapUpdate, Sem.run_bind, run_underlying hd, Result.andThen_ok, run_getMap g2, run_checkKey hkd hok hk false 9999 w, run_findKey hkd k1, run_setMap g2]
      · simp at hl'
    · simp at h
  · simp at h
end
end Go.Ev

/- One operation of the evaluator is the machine's. -/
namespace Go.Ev
open Go Go.RowKit
set_option linter.unusedSimpArgs false
set_option linter.unusedVariables false

section
variable {P : Program} {w0 : World} {H : AH} {μ : Mu} {w : World}

theorem zeroV_sound {t : TypeId} {z : AV} (h : zeroV P t = some z) (w : World) : ∃ v, (zeroValue t).run P w = .ok v w ∧ VR μ z v := by
  unfold zeroV at h
  simp only [Option.bind_eq_some_iff] at h
  obtain ⟨i, hi, v, hv, hz⟩ := h
  exact ⟨v, run_zeroValue hi hv w, cv_sound hz⟩

theorem lookA_sound (hR : Rel P w0 H μ w) {t : TypeId} {m k r : AV} {ok : Bool} (h : lookA P t m k H ok = some r) {um uk : Value} (hm : VR μ m um) (hk : VR μ k uk) :
    ∃ z, (Instr.lookup t um uk ok).run P w = .ok z w ∧ VR μ r z := by
  unfold lookA at h
  split at h
  · rename_i kt et hmt
    obtain ⟨hd, d, hkd, hok⟩ := mapT_sound hmt
    simp only at h
    split at h
    · rename_i l hl
      have key : ∃ es : Array MapEntry, MapR μ l es ∧ ((um = .map none ∧ es = #[]) ∨ ∃ r ck, um = .map (some r) ∧ (getObj r).run P w = .ok (.map es ck) w) := by
        split at hl
        · simp only [Option.some.injEq] at hl; subst hl
          simp only [VR] at hm; subst hm
          exact ⟨#[], by simp [MapR, VRs], .inl ⟨rfl, rfl⟩⟩
        · rename_i b
          simp only [VR] at hm
          obtain ⟨L, h1, rfl⟩ := hm
          split at hl
          · rename_i l2 hb
            simp only [Option.some.injEq] at hl; subst hl
            obtain ⟨L', es, ck, g1, g2, g3, g4⟩ := hR.blk b _ hb
            rw [h1] at g1; simp only [Option.some.injEq] at g1; subst g1
            exact ⟨es, g3, .inr ⟨_, ck, rfl, run_getMap g2⟩⟩
          · simp at hl
        · simp at hl
      obtain ⟨es, g3, hes⟩ := key
      have hck : ∀ e, (Instr.checkKey e 10000 kt uk).run P w = .ok () w := fun e => run_checkKey hkd hok hk e 9999 w
      split at h
      · rename_i i v hf
        simp only [Option.some.injEq] at h; subst h
        obtain ⟨r', k1, k2, _⟩ := findA_sound hok hk g3.1 g3.2 hf
        cases r' with
        | none => exact k2.elim
        | some r' =>
          obtain ⟨j, z⟩ := r'
          obtain ⟨rfl, k2⟩ := k2
          refine ⟨if ok then .tuple #[z, .bool true] else z, ?_, ?_⟩
          · rcases hes with ⟨rfl, rfl⟩ | ⟨q, ck, rfl, hq⟩
            · simp only [Instr.lookup, Sem.run_bind, run_underlying hd, Result.andThen_ok, Sem.run_pure, hck, run_findKey hkd k1]
            · simp only [Instr.lookup, Sem.run_bind, run_underlying hd, Result.andThen_ok, Sem.run_pure, hq, hck, run_findKey hkd k1]
          · cases ok
            · simpa using k2
            · simp only [if_true, VR]
              exact ⟨_, rfl, by simp only [VRs]; exact ⟨z, _, rfl, k2, .bool true, [], rfl, by simp [VR], rfl⟩⟩
      · rename_i hf
        obtain ⟨r', k1, k2, _⟩ := findA_sound hok hk g3.1 g3.2 hf
        cases r' with
        | some r' => exact k2.elim
        | none =>
          split at h
          · rename_i z hz
            simp only [Option.some.injEq] at h; subst h
            obtain ⟨v, hv1, hv2⟩ := zeroV_sound (μ := μ) hz w
            refine ⟨if ok then .tuple #[v, .bool false] else v, ?_, ?_⟩
            · rcases hes with ⟨rfl, rfl⟩ | ⟨q, ck, rfl, hq⟩
              · simp only [Instr.lookup, Sem.run_bind, run_underlying hd, Result.andThen_ok, Sem.run_pure, hck, run_findKey hkd k1, hv1]
              · simp only [Instr.lookup, Sem.run_bind, run_underlying hd, Result.andThen_ok, Sem.run_pure, hq, hck, run_findKey hkd k1, hv1]
            · cases ok
              · simpa using hv2
              · simp only [if_true, VR]
                exact ⟨_, rfl, by simp only [VRs]; exact ⟨v, _, rfl, hv2, .bool false, [], rfl, by simp [VR], rfl⟩⟩
          · simp at h
      · simp at h
    · simp at h
  · simp at h

theorem delA_sound (hR : Rel P w0 H μ w) {t : TypeId} {m k : AV} {H' : AH} (h : delA P t m k H = some H') {um uk : Value} (hm : VR μ m um) (hk : VR μ k uk) (ats : Array TypeId) (ha : ats[0]? = some t) (ty : TypeId) :
    Does P w0 μ H' ((Builtin.delete_ ats ty #[um, uk]).run P w) U := by
  have hU : VR μ U (.tuple #[]) := by simp only [U, VR]; exact ⟨#[], rfl, by simp [VRs]⟩
  unfold delA at h
  split at h
  · rename_i p hmt
    obtain ⟨kt, et⟩ := p
    obtain ⟨hd, d, hkd, hok⟩ := mapT_sound hmt
    simp only [Option.some.injEq] at h; subst h
    simp only [VR] at hm; subst hm
    have hck : (Instr.checkKey true 10000 kt uk).run P w = .ok () w := run_checkKey hkd hok hk true 9999 w
    refine ⟨.tuple #[], w, μ, ?_, Ext.refl _, hR, hU⟩
    have e0 : (#[Value.map none, uk] : Array Value)[0]? = some (.map none) := rfl
    have e1 : (#[Value.map none, uk] : Array Value)[1]? = some uk := rfl
    simp only [Builtin.delete_, ha, e0, e1, Sem.run_bind, run_underlying hd, Result.andThen_ok, hck, Sem.run_pure]
  · rename_i p b hmt
    obtain ⟨kt, et⟩ := p
    obtain ⟨hd, d, hkd, hok⟩ := mapT_sound hmt
    split at h
    · rename_i l hb
      simp only [VR] at hm
      obtain ⟨L, h1, rfl⟩ := hm
      obtain ⟨L', es, ck, g1, g2, g3, g4⟩ := hR.blk b _ hb
      rw [h1] at g1; simp only [Option.some.injEq] at g1; subst g1
      have hck : ∀ e, (Instr.checkKey e 10000 kt uk).run P w = .ok () w := fun e => run_checkKey hkd hok hk e 9999 w
      split at h
      · rename_i i v hf
        simp only [Option.some.injEq] at h; subst h
        obtain ⟨r', k1, k2, _⟩ := findA_sound hok hk g3.1 g3.2 hf
        cases r' with
        | none => exact k2.elim
        | some r' =>
          obtain ⟨j, z⟩ := r'
          obtain ⟨rfl, k2⟩ := k2
          refine ⟨.tuple #[], World.setObj' w L.c (.map (es.eraseIdxIfInBounds i) ck), μ, ?_, Ext.refl _, hR.setMap hb h1 (g3.erase i) g4 g2, hU⟩
          have e0 : (#[Value.map (some L.c), uk] : Array Value)[0]? = some (.map (some L.c)) := rfl
          have e1 : (#[Value.map (some L.c), uk] : Array Value)[1]? = some uk := rfl
          simp only [Builtin.delete_, ha, e0, e1, Sem.run_bind, run_underlying hd, Result.andThen_ok, run_getMap g2, hck, run_findKey hkd k1, run_setMap g2, Sem.run_pure]
      · rename_i hf
        simp only [Option.some.injEq] at h; subst h
        obtain ⟨r', k1, k2, _⟩ := findA_sound hok hk g3.1 g3.2 hf
        cases r' with
        | some r' => exact k2.elim
        | none =>
          have hs := hR.setMap (l' := l) (ck := ck) hb h1 g3 g4 g2
          rw [AH.set_same H b _ hb] at hs
          refine ⟨.tuple #[], World.setObj' w L.c (.map es ck), μ, ?_, Ext.refl _, hs, hU⟩
          have e0 : (#[Value.map (some L.c), uk] : Array Value)[0]? = some (.map (some L.c)) := rfl
          have e1 : (#[Value.map (some L.c), uk] : Array Value)[1]? = some uk := rfl
          simp only [Builtin.delete_, ha, e0, e1, Sem.run_bind, run_underlying hd, Result.andThen_ok, run_getMap g2, hck, run_findKey hkd k1, run_setMap g2, Sem.run_pure]
      · simp at h
    · simp at h
  · simp at h

theorem foldA_mx : ∀ {l : List AV} {a r : AV}, foldA mx2 a l = some r → ∀ {u : Value} {vs : List Value}, VR μ a u → VRs μ l vs → ∃ z, (vs.foldlM Builtin.max2 u).run P w = .ok z w ∧ VR μ r z
  | [], a, r, h, u, vs, ha, hl => by
    simp only [foldA, Option.some.injEq] at h; subst h
    simp only [VRs] at hl; subst hl
    exact ⟨u, rfl, ha⟩
  | b :: l, a, r, h, u, vs, ha, hl => by
    simp only [VRs] at hl
    obtain ⟨x, xs, rfl, hx, hxs⟩ := hl
    simp only [foldA] at h
    split at h
    · rename_i c hc
      unfold mx2 at hc
      split at hc
      · simp only [Option.some.injEq] at hc; subst hc
        simp only [VR] at ha hx; subst ha; subst hx
        obtain ⟨z, h1, h2⟩ := foldA_mx h (by simp only [VR]; rfl) hxs
        refine ⟨z, ?_, h2⟩
        simp only [List.foldlM_cons, Sem.run_bind, Builtin.max2, Sem.run_pure, Result.andThen_ok]
        exact h1
      · simp at hc
    · simp at h
theorem foldA_mn : ∀ {l : List AV} {a r : AV}, foldA mn2 a l = some r → ∀ {u : Value} {vs : List Value}, VR μ a u → VRs μ l vs → ∃ z, (vs.foldlM Builtin.min2 u).run P w = .ok z w ∧ VR μ r z
  | [], a, r, h, u, vs, ha, hl => by
    simp only [foldA, Option.some.injEq] at h; subst h
    simp only [VRs] at hl; subst hl
    exact ⟨u, rfl, ha⟩
  | b :: l, a, r, h, u, vs, ha, hl => by
    simp only [VRs] at hl
    obtain ⟨x, xs, rfl, hx, hxs⟩ := hl
    simp only [foldA] at h
    split at h
    · rename_i c hc
      unfold mn2 at hc
      split at hc
      · simp only [Option.some.injEq] at hc; subst hc
        simp only [VR] at ha hx; subst ha; subst hx
        obtain ⟨z, h1, h2⟩ := foldA_mn h (by simp only [VR]; rfl) hxs
        refine ⟨z, ?_, h2⟩
        simp only [List.foldlM_cons, Sem.run_bind, Builtin.min2, Sem.run_pure, Result.andThen_ok]
        exact h1
      · simp at hc
    · simp at h

theorem arr_of {vs : Array Value} {l : List Value} (h : vs.toList = l) : vs = l.toArray := by subst h; simp
theorem builtA_sound (hR : Rel P w0 H μ w) {b : Builtin} {ats : Array TypeId} {xs : List AV} {r : AV} {H' : AH} (h : builtA P b ats.toList xs H = some (r, H')) {vs : Array Value} (hv : VRs μ xs vs.toList) (ty : TypeId) (cs : Array Bool) :
    Does1 P w0 μ H' ((builtin b ats ty cs vs).run P w) r := by
  unfold builtA at h
  split at h
  · rename_i t x hat
    simp only [Option.map_eq_some_iff, Prod.mk.injEq] at h
    obtain ⟨r', hr, rfl, rfl⟩ := h
    simp only [VRs] at hv
    obtain ⟨u, us, he, hx, rfl⟩ := hv
    obtain rfl := arr_of he
    have hat' : ats = #[t] := by rw [← Array.toArray_toList (xs := ats), hat]
    subst hat'
    exact Does1.of (Does.same hR (lenA_sound hR hr hx ty))
  · rename_i t tx s x hat
    simp only [VRs] at hv
    obtain ⟨u, us, he, hs, u2, us2, rfl, hx, rfl⟩ := hv
    obtain rfl := arr_of he
    have hat' : ats = #[t, tx] := by rw [← Array.toArray_toList (xs := ats), hat]
    subst hat'
    split at h
    · rename_i hi
      exact Does1.of (appZ_sound hR hi h hs hx ty)
    · exact Does1.of (appA_sound hR h hs hx ty)
  · rename_i x l
    simp only [Option.map_eq_some_iff, Prod.mk.injEq] at h
    obtain ⟨r', hr, rfl, rfl⟩ := h
    simp only [VRs] at hv
    obtain ⟨u, us, he, hx, hl⟩ := hv
    refine Does1.of (Does.same hR ?_)
    obtain ⟨z, h1, h2⟩ := foldA_mn (P := P) (w := w) hr hx hl
    exact ⟨z, by simp only [Builtin.min_, he]; exact h1, h2⟩
  · rename_i x l
    simp only [Option.map_eq_some_iff, Prod.mk.injEq] at h
    obtain ⟨r', hr, rfl, rfl⟩ := h
    simp only [VRs] at hv
    obtain ⟨u, us, he, hx, hl⟩ := hv
    refine Does1.of (Does.same hR ?_)
    obtain ⟨z, h1, h2⟩ := foldA_mx (P := P) (w := w) hr hx hl
    exact ⟨z, by simp only [Builtin.max_, he]; exact h1, h2⟩
  · rename_i t ts m k hat
    simp only [Option.map_eq_some_iff, Prod.mk.injEq] at h
    obtain ⟨H2, hr, rfl, rfl⟩ := h
    simp only [VRs] at hv
    obtain ⟨u, us, he, hm, u2, us2, rfl, hk, rfl⟩ := hv
    obtain rfl := arr_of he
    exact Does1.of (delA_sound hR hr hm hk ats (by rw [← Array.getElem?_toList, hat]; rfl) ty)
  · simp at h
end
end Go.Ev

/- One operation of the evaluator that calls no function is the machine's. -/
namespace Go.Ev
open Go Go.RowKit
set_option linter.unusedSimpArgs false
set_option linter.unusedVariables false

section
variable {P : Program} {w0 : World} {H : AH} {μ : Mu} {w : World}

/-- what a slot or constant holds stands for what the machine's does -/
def OR (μ : Mu) (τ : Tm) (a : Act) (x : Operand) : Prop := ∀ v, opnd τ x = some v → VR μ v (a.eval x)
theorem okOp2 {τ : Tm} {a : Act} {x y : Operand} {op : Op} (h : ∀ z ∈ op.operands.toList, OR μ τ a z) (he : op.operands.toList = [x, y]) : OR μ τ a x ∧ OR μ τ a y := by
  rw [he] at h; exact ⟨h x (by simp), h y (by simp)⟩
theorem okOp1 {τ : Tm} {a : Act} {x : Operand} {op : Op} (h : ∀ z ∈ op.operands.toList, OR μ τ a z) (he : op.operands.toList = [x]) : OR μ τ a x := by
  rw [he] at h; exact h x (by simp)
theorem okOp3 {τ : Tm} {a : Act} {x y z : Operand} {op : Op} (h : ∀ z ∈ op.operands.toList, OR μ τ a z) (he : op.operands.toList = [x, y, z]) : OR μ τ a x ∧ OR μ τ a y ∧ OR μ τ a z := by
  rw [he] at h; exact ⟨h x (by simp), h y (by simp), h z (by simp)⟩

theorem opndL_sound {τ : Tm} {a : Act} : ∀ {l : List Operand} {xs : List AV}, (∀ z ∈ l, OR μ τ a z) → opndL τ l = some xs → VRs μ xs (l.map a.eval)
  | [], xs, _, h => by simp [opndL] at h; subst h; simp [VRs]
  | x :: l, xs, hok, h => by
    simp only [opndL] at h
    split at h
    · rename_i v r hv hr
      simp only [Option.some.injEq] at h; subst h
      simp only [List.map_cons, VRs]
      exact ⟨_, _, rfl, hok x (by simp) v hv, opndL_sound (fun z hz => hok z (by simp [hz])) hr⟩
    · simp at h
theorem opndP_sound {τ : Tm} {a : Act} : ∀ {l : List (Nat × Operand)} {xs : List (Nat × AV)}, (∀ z ∈ l.map (·.2), OR μ τ a z) → opndP τ l = some xs → PartsR μ xs (l.map fun (i, x) => (i, a.eval x))
  | [], xs, _, h => by simp [opndP] at h; subst h; simp [PartsR]
  | (i, x) :: l, xs, hok, h => by
    simp only [opndP] at h
    split at h
    · rename_i v r hv hr
      simp only [Option.some.injEq] at h; subst h
      simp only [List.map_cons, PartsR]
      exact ⟨_, _, rfl, hok x (by simp) v hv, opndP_sound (fun z hz => hok z (by simp only [List.map_cons, List.mem_cons]; exact .inr hz)) hr⟩
    · simp at h
theorem opndO_sound {τ : Tm} {a : Act} {x : Option Operand} (hok : ∀ z ∈ x.toArray.toList, OR μ τ a z) {r : Option AV} (h : opndO τ x = some r) : BR μ (some r) (x.map a.eval) := by
  cases x with
  | none => simp [opndO] at h; subst h; simp [BR]
  | some x =>
    simp [opndO] at h
    obtain ⟨v, hv, rfl⟩ := h
    simp only [Option.map_some, BR]
    exact hok x (by simp) v hv

set_option maxHeartbeats 8000000 in
theorem evOp_sound (hR : Rel P w0 H μ w) {τ : Tm} {a : Act} (o : Oper) (hok : ∀ z ∈ o.op.operands.toList, OR μ τ a z) {r : AV} {H' : AH} (h : evOp P o.op τ H = some (r, H')) :
    Does1 P w0 μ H' ((execOp a.eval o).run P w) r := by
  obtain ⟨dst, op, ty, pos, after, guard⟩ := o
  cases op with
  | move x =>
    simp only [evOp, Option.map_eq_some_iff, Prod.mk.injEq] at h
    obtain ⟨v, hv, rfl, rfl⟩ := h
    exact Does1.val hR (okOp1 hok rfl _ hv)
  | assign x =>
    simp only [evOp, Option.map_eq_some_iff, Prod.mk.injEq] at h
    obtain ⟨v, hv, rfl, rfl⟩ := h
    exact Does1.val hR (okOp1 hok rfl _ hv)
  | pick c x y =>
    obtain ⟨k1, k2, k3⟩ := okOp3 hok rfl
    simp only [evOp] at h
    split at h
    · rename_i q hq
      simp only [Option.map_eq_some_iff, Prod.mk.injEq] at h
      obtain ⟨v, hv, rfl, rfl⟩ := h
      have hc := k1 _ hq
      simp only [VR] at hc
      have : (execOp a.eval ⟨dst, .pick c x y, ty, pos, after, guard⟩).run P w = .ok (.value (if q then a.eval x else a.eval y)) w := by
        simp [execOp, hc, asBool]
      rw [this]
      cases q
      · exact Does1.val hR (k3 _ hv)
      · exact Does1.val hR (k2 _ hv)
    · simp at h
  | alloc e =>
    simp only [evOp] at h
    split at h
    · rename_i z sz hz hs
      simp only [Option.some.injEq, Prod.mk.injEq] at h
      obtain ⟨rfl, rfl⟩ := h
      exact Does1.of (alloc_sound hR hz hs)
    · simp at h
  | box e x =>
    simp only [evOp] at h
    split at h
    · rename_i v sz hv hs
      split at h
      · rename_i h1
        simp only [Option.some.injEq, Prod.mk.injEq] at h
        obtain ⟨rfl, rfl⟩ := h
        exact Does1.of (box_sound hR hs h1 (okOp1 hok rfl _ hv))
      · simp at h
    · simp at h
  | build t parts =>
    simp only [evOp] at h
    have hok' : ∀ z ∈ parts.toList.map (·.2), OR μ τ a z := by simpa [Op.operands] using hok
    split at h
    · rename_i ps z hps hz
      have hp := opndP_sound hok' hps
      split at h
      · rename_i pl hpl
        simp only [Option.map_eq_some_iff, Prod.mk.injEq] at h
        obtain ⟨v, hv, rfl, rfl⟩ := h
        exact Does1.of (Does.same hR (build_struct_sound hpl hz hv (vs := parts.map fun (i, x) => (i, a.eval x)) (by simpa using hp) w))
      · split at h
        · rename_i n e ha
          split at h
          · rename_i sz hs
            simp only [Option.map_eq_some_iff, Prod.mk.injEq] at h
            obtain ⟨v, hv, rfl, rfl⟩ := h
            exact Does1.of (Does.same hR (build_array_sound ha hs hz hv (vs := parts.map fun (i, x) => (i, a.eval x)) (by simpa using hp) w))
          · simp at h
        · simp at h
    · simp at h
  | buildSlice t len parts =>
    simp only [evOp] at h
    have hok' : ∀ z ∈ parts.toList.map (·.2), OR μ τ a z := by simpa [Op.operands] using hok
    split at h
    · rename_i ps e hps he
      have hp := opndP_sound hok' hps
      split at h
      · rename_i sz z hs hz
        split at h
        · rename_i hc
          split at h
          · rename_i rr hr
            split at h
            · rename_i h1
              simp only [Option.some.injEq, Prod.mk.injEq] at h
              obtain ⟨rfl, rfl⟩ := h
              have hd := buildSlice_sound hR he hs hz hc.1 hc.2 hr h1 (vs := parts.map fun (i, x) => (i, a.eval x)) (by simpa using hp)
              have e : (execOp a.eval ⟨dst, .buildSlice t len parts, ty, pos, after, guard⟩) = (do pure (.value (← Instr.buildSlice t len (parts.map fun (i, x) => (i, a.eval x)))) : Sem Next) := rfl
              rw [e]; exact Does1.of hd
            · simp at h
          · simp at h
        · simp at h
      · simp at h
    · simp at h
  | load t x =>
    simp only [evOp] at h
    split at h
    · rename_i b o hx
      simp only [Option.map_eq_some_iff, Prod.mk.injEq] at h
      obtain ⟨v, hv, rfl, rfl⟩ := h
      have hp := okOp1 hok rfl _ hx
      simp only [VR] at hp
      obtain ⟨L, h1, h2⟩ := hp
      obtain ⟨z, h3, h4⟩ := ldVar_sound hR hv h1
      refine Does1.of (Does.same hR ⟨z, ?_, h4⟩)
      simp [h2, Instr.loadAt, sureAddr_run, h3]
    · simp at h
  | store t x y =>
    obtain ⟨k1, k2⟩ := okOp2 hok rfl
    simp only [evOp] at h
    split at h
    · rename_i b o v hx hy
      simp only [Option.map_eq_some_iff, Prod.mk.injEq] at h
      obtain ⟨H2, hs, rfl, rfl⟩ := h
      have hp := k1 _ hx
      simp only [VR] at hp
      obtain ⟨L, h1, h2⟩ := hp
      obtain ⟨w', h3, h4⟩ := stVar_sound hR hs h1 (k2 _ hy)
      refine Does1.unit ?_ (Ext.refl _) h4
      simp [h2, Instr.storeAt, sureAddr_run, h3]
    · simp at h
  | nilCheck x =>
    have k1 := okOp1 hok rfl
    simp only [evOp] at h
    split at h
    · rename_i b o hx
      simp only [Option.some.injEq, Prod.mk.injEq] at h
      obtain ⟨rfl, rfl⟩ := h
      have hp := k1 _ hx
      have hp' := hp
      simp only [VR] at hp'
      obtain ⟨L, h1, h2⟩ := hp'
      have : (execOp a.eval ⟨dst, .nilCheck x, ty, pos, after, guard⟩).run P w = .ok (.value (a.eval x)) w := by simp [execOp, h2]
      rw [this]; exact Does1.val hR hp
    · rename_i f fs l hx
      simp only [Option.some.injEq, Prod.mk.injEq] at h
      obtain ⟨rfl, rfl⟩ := h
      have hp := k1 _ hx
      have hp' := hp
      simp only [VR] at hp'
      obtain ⟨gs, cs, h2, _⟩ := hp'
      have : (execOp a.eval ⟨dst, .nilCheck x, ty, pos, after, guard⟩).run P w = .ok (.value (a.eval x)) w := by simp [execOp, h2]
      rw [this]; exact Does1.val hR hp
    · rename_i t v hx
      simp only [Option.some.injEq, Prod.mk.injEq] at h
      obtain ⟨rfl, rfl⟩ := h
      have hp := k1 _ hx
      have hp' := hp
      simp only [VR] at hp'
      obtain ⟨u, h2, _⟩ := hp'
      have : (execOp a.eval ⟨dst, .nilCheck x, ty, pos, after, guard⟩).run P w = .ok (.value (a.eval x)) w := by simp [execOp, h2]
      rw [this]; exact Does1.val hR hp
    · simp at h
  | binOp op t x y yt =>
    obtain ⟨k1, k2⟩ := okOp2 hok rfl
    simp only [evOp] at h
    split at h
    · rename_i u v hx hy
      simp only [Option.map_eq_some_iff, Prod.mk.injEq] at h
      obtain ⟨z, hz, rfl, rfl⟩ := h
      exact Does1.of (Does.same hR (binA_sound hz (k1 _ hx) (k2 _ hy) w))
    · simp at h
  | unOp op t x =>
    simp only [evOp] at h
    split at h
    · rename_i u hx
      simp only [Option.map_eq_some_iff, Prod.mk.injEq] at h
      obtain ⟨z, hz, rfl, rfl⟩ := h
      exact Does1.of (Does.same hR (unA_sound hz (okOp1 hok rfl _ hx) w))
    · simp at h
  | convert s d x =>
    simp only [evOp] at h
    split at h
    · rename_i u hx
      exact Does1.of (convA_sound hR h (okOp1 hok rfl _ hx))
    · simp at h
  | makeInterface t x =>
    simp only [evOp] at h
    split at h
    · simp at h
    · rename_i d u hni hd hx
      simp only [Option.some.injEq, Prod.mk.injEq] at h
      obtain ⟨rfl, rfl⟩ := h
      refine Does1.of (Does.same hR ⟨.iface t (a.eval x), ?_, by simp only [VR]; exact ⟨_, rfl, okOp1 hok rfl _ hx⟩⟩)
      cases d with
      | interface ms => exact (hni _ rfl).elim
      | _ => simp [Instr.makeInterface, run_underlying hd]
    · simp at h
  | makeFunc fn first captured =>
    cases fn with
    | func f =>
      simp only [evOp] at h
      have hok0 : ∀ z ∈ first.toList ++ captured.toList, OR μ τ a z := by simpa [Op.operands] using hok
      have hok' : (∀ z ∈ first.toList, OR μ τ a z) ∧ (∀ z ∈ captured.toList, OR μ τ a z) :=
        ⟨fun z hz => hok0 z (List.mem_append.2 (.inl hz)), fun z hz => hok0 z (List.mem_append.2 (.inr hz))⟩
      split at h
      · rename_i u v hx hy
        simp only [Option.some.injEq, Prod.mk.injEq] at h
        obtain ⟨rfl, rfl⟩ := h
        refine Does1.of (Does.same hR ⟨.func (.func f) (first.map a.eval) (captured.map a.eval), rfl, ?_⟩)
        simp only [VR]
        exact ⟨_, _, rfl, by simpa using opndL_sound hok'.1 hx, by simpa using opndL_sound hok'.2 hy⟩
      · simp at h
    | _ => simp [evOp] at h
  | makeMap t r =>
    cases r with
    | none =>
      simp only [evOp, Option.some.injEq, Prod.mk.injEq] at h
      obtain ⟨rfl, rfl⟩ := h
      refine Does1.of ⟨.map (some w.heap.size), w.alloc (.map #[] 0), muPush μ H.next ⟨w.heap.size, 0, 0, 0⟩, ?_, hR.ext _, hR.pushMap 0, by simp only [VR]; exact ⟨_, muPush_self _ _ _, rfl⟩⟩
      simp [Instr.makeMap]
    | some r => simp [evOp] at h
  | makeSlice t l c =>
    obtain ⟨k1, k2⟩ := okOp2 hok rfl
    simp only [evOp] at h
    split at h
    · rename_i kl l' kc c' e hl hc he
      split at h
      · rename_i sz by_ z hs hb hz
        split at h
        · rename_i hcc
          simp only [Option.some.injEq, Prod.mk.injEq] at h
          obtain ⟨rfl, rfl⟩ := h
          have e1 := k1 _ hl
          have e2 := k2 _ hc
          simp only [VR] at e1 e2
          have := makeSlice_sound hR he hs hb hz hcc.1 (kl := kl) (kc := kc) hcc.2.1 hcc.2.2.1 hcc.2.2.2.1 hcc.2.2.2.2
          rw [← e1, ← e2] at this
          exact Does1.of this
        · simp at h
      · simp at h
    · simp at h
  | slice t x lo hi mx =>
    cases mx with
    | some m => simp [evOp] at h
    | none =>
      have hok0 : ∀ z ∈ [x] ++ lo.toArray.toList ++ hi.toArray.toList, OR μ τ a z := by simpa [Op.operands] using hok
      have hok' : OR μ τ a x ∧ (∀ z ∈ lo.toArray.toList, OR μ τ a z) ∧ (∀ z ∈ hi.toArray.toList, OR μ τ a z) :=
        ⟨hok0 x (by simp), fun z hz => hok0 z (List.mem_append.2 (.inl (List.mem_append.2 (.inr hz)))), fun z hz => hok0 z (List.mem_append.2 (.inr hz))⟩
      simp only [evOp] at h
      split at h
      · rename_i u l hh hx hl hhh
        simp only [Option.map_eq_some_iff, Prod.mk.injEq] at h
        obtain ⟨z, hz, rfl, rfl⟩ := h
        exact Does1.of (Does.same hR (cutA_sound hR hz (hok'.1 _ hx) (opndO_sound hok'.2.1 hl) (opndO_sound hok'.2.2 hhh)))
      · simp at h
  | fieldAddr s x f =>
    simp only [evOp] at h
    split at h
    · rename_i b o off ft hx hf
      split at h
      · rename_i n hn
        split at h
        · rename_i hn0
          simp only [Option.some.injEq, Prod.mk.injEq] at h
          obtain ⟨rfl, rfl⟩ := h
          have hp := okOp1 hok rfl _ hx
          simp only [VR] at hp
          obtain ⟨L, h1, h2⟩ := hp
          refine Does1.of (Does.same hR ⟨.pointer (some ⟨L.c, L.base + o + off, none⟩), by rw [h2]; exact fieldAt_sound hf hn hn0 _ _ w, by simp only [VR]; exact ⟨L, h1, by rw [Nat.add_assoc]⟩⟩)
        · simp at h
      · simp at h
    · simp at h
  | field s x f =>
    simp only [evOp] at h
    split at h
    · rename_i l off ft hx hf
      simp only [Option.map_eq_some_iff, Prod.mk.injEq] at h
      obtain ⟨z, hz, rfl, rfl⟩ := h
      have hp := okOp1 hok rfl _ hx
      simp only [VR] at hp
      obtain ⟨cs, h1, h2⟩ := hp
      refine Does1.of (Does.same hR ?_)
      rw [h1]; exact field_sound hf hz h2 w
    · simp at h
  | indexAddr t x i =>
    obtain ⟨k1, k2⟩ := okOp2 hok rfl
    simp only [evOp] at h
    split at h
    · rename_i u v hx hy
      simp only [Option.map_eq_some_iff, Prod.mk.injEq] at h
      obtain ⟨z, hz, rfl, rfl⟩ := h
      exact Does1.of (Does.same hR (idxA_sound hz (k1 _ hx) (k2 _ hy) w))
    · simp at h
  | index t x i =>
    obtain ⟨k1, k2⟩ := okOp2 hok rfl
    simp only [evOp] at h
    split at h
    · rename_i u v hx hy
      simp only [Option.map_eq_some_iff, Prod.mk.injEq] at h
      obtain ⟨z, hz, rfl, rfl⟩ := h
      exact Does1.of (Does.same hR (indexA_sound hz (k1 _ hx) (k2 _ hy) w))
    · simp at h
  | extract x i =>
    simp only [evOp] at h
    split at h
    · rename_i l hx
      simp only [Option.map_eq_some_iff, Prod.mk.injEq] at h
      obtain ⟨z, hz, rfl, rfl⟩ := h
      have hp := okOp1 hok rfl _ hx
      simp only [VR] at hp
      obtain ⟨cs, h1, h2⟩ := hp
      obtain ⟨u, h3, h4⟩ := h2.get i z hz
      rw [Array.getElem?_toList] at h3
      refine Does1.of (Does.same hR ⟨u, ?_, h4⟩)
      simp [h1, Instr.extract, h3]
    · simp at h
  | lookup t m k ok =>
    obtain ⟨k1, k2⟩ := okOp2 hok rfl
    simp only [evOp] at h
    split at h
    · rename_i u v hx hy
      simp only [Option.map_eq_some_iff, Prod.mk.injEq] at h
      obtain ⟨z, hz, rfl, rfl⟩ := h
      exact Does1.of (Does.same hR (lookA_sound hR hz (k1 _ hx) (k2 _ hy)))
    · simp at h
  | mapUpdate t m k v =>
    obtain ⟨k1, k2, k3⟩ := okOp3 hok rfl
    simp only [evOp] at h
    split at h
    · rename_i x y z hx hy hz
      simp only [Option.map_eq_some_iff, Prod.mk.injEq] at h
      obtain ⟨H2, hs, rfl, rfl⟩ := h
      obtain ⟨w', h3, h4⟩ := updA_sound hR hs (k1 _ hx) (k2 _ hy) (k3 _ hz)
      exact Does1.unit h3 (Ext.refl _) h4
    · simp at h
  | insert t m k v =>
    obtain ⟨k1, k2, k3⟩ := okOp3 hok rfl
    simp only [evOp] at h
    split at h
    · rename_i x y z hx hy hz
      simp only [Option.map_eq_some_iff, Prod.mk.injEq] at h
      obtain ⟨H2, hs, rfl, rfl⟩ := h
      obtain ⟨w', h3, h4⟩ := updA_sound hR hs (k1 _ hx) (k2 _ hy) (k3 _ hz)
      exact Does1.unit h3 (Ext.refl _) h4
    · simp at h
  | call c =>
    obtain ⟨callee, args, ats⟩ := c
    cases callee with
    | builtin b =>
      simp only [evOp] at h
      have hok' : ∀ z ∈ args.toList, OR μ τ a z := by simpa [Op.operands, Call.operands] using hok
      split at h
      · rename_i xs hx
        have hv := opndL_sound hok' hx
        have hb := fun cs => builtA_sound hR h (vs := args.map a.eval) (by simpa using hv) ty cs
        have e : ∃ cs, (execOp a.eval ⟨dst, .call ⟨.builtin b, args, ats⟩, ty, pos, after, guard⟩).run P w = (builtin b ats ty cs (args.map a.eval)).run P w :=
          ⟨_, by simp only [execOp, resolve, invoke, Sem.run_bind, Sem.run_pure, Result.andThen_ok]; rfl⟩
        obtain ⟨cs, e⟩ := e
        rw [e]; exact hb cs
      · simp at h
    | _ => simp [evOp] at h
  | _ => simp [evOp] at h
end
end Go.Ev

/- Calls and regions of the evaluator. -/
namespace Go.Ev
open Go Go.RowKit
set_option linter.unusedSimpArgs false
set_option linter.unusedVariables false

abbrev CallF := FuncId → List AV → AH → Option (AV × AH)
section
variable (P : Program) (call : CallF)
/-- the function that a method of a dynamic type is, where its row is plain -/
def mthA (t : TypeId) (name : String) : Option FuncId := match P.info? t, P.underlying t with
  | some i, some d => match i.methods.find? (·.name == name) with
    | some m => if m.path.isEmpty then (match m.func with
      | some (f, true) => (match d with | .pointer _ => some f | _ => none)
      | some (f, false) => (match d with | .pointer _ => none | _ => some f)
      | none => none) else none
    | none => none
  | _, _ => none
def evO (o : Oper) (τ : Tm) (H : AH) : Option (AV × AH) := match o.op with
  | .call c => match c.callee with
    | .value f => match opnd τ f, opndL τ c.args.toList with
      | some (.func g fs ls), some xs => call g (fs ++ xs ++ ls) H
      | _, _ => none
    | .invoke r name => match opnd τ r, opndL τ c.args.toList with
      | some (.iface t v), some xs => match mthA P t name with
        | some g => call g (v :: xs) H
        | none => none
      | _, _ => none
    | _ => evOp P o.op τ H
  | _ => evOp P o.op τ H
def wantA (ops : Array Oper) (τ : Tm) (o : Oper) : Bool := match o.guard with
  | none => true
  | some (j, want) => match (ops[j]?).bind (·.dst) with
    | some d => match τ d with
      | .bool b => b == want
      | _ => false
    | none => false
def stepA (ops : Array Oper) (o : Oper) (τ : Tm) (H : AH) : Option (Tm × AH) :=
  if wantA ops τ o then match evO P call o τ H with
    | some (v, H') => some (put τ o.dst v, H')
    | none => none
  else some (put τ o.dst U, H)
def evOps (ops : Array Oper) : List Oper → Tm → AH → Option (Tm × AH)
  | [], τ, H => some (τ, H)
  | o :: l, τ, H => match stepA P call ops o τ H with
    | some (τ', H') => evOps ops l τ' H'
    | none => none
end

/-- What is asked of the calls: the machine's do what the evaluator's do. -/
def CallOK (P : Program) (w0 : World) (call : CallF) : Prop :=
  ∀ (f : FuncId) (args : List AV) (H : AH) (r : AV) (H' : AH) (μ : Mu) (w : World) (vs : Array Value), call f args H = some (r, H') → Rel P w0 H μ w → VRs μ args vs.toList →
    (∃ fn, P.funcs[f]? = some fn ∧ (fn.name == "runtime.NumGoroutine") = false ∧ fn.body.isNone = false) ∧
    Calls P f vs w fun e w' => ∃ v μ', e = .returned v ∧ Ext μ μ' ∧ Rel P w0 H' μ' w' ∧ VR μ' r v

section
variable {P : Program} {w0 : World} {H : AH} {μ : Mu} {w : World} {call : CallF}

theorem Does1.wp {o : Oper} {a : Act} {H' : AH} {r : AV} {K : Act → World → Prop} {Q : Exit → Act → World → Prop} (h : Does1 P w0 μ H' ((execOp a.eval o).run P w) r)
    (hK : ∀ u w' μ', Ext μ μ' → Rel P w0 H' μ' w' → VR μ' r u → K (a.put o.dst u) w') : o.wp P a w K Q := by
  obtain ⟨u, w', μ', h1 | ⟨rfl, h1⟩, h2, h3, h4⟩ := h
  · unfold Oper.wp; rw [h1]; exact hK u w' μ' h2 h3 h4
  · unfold Oper.wp; rw [h1]; exact hK undef w' μ' h2 h3 h4

theorem method_run {t : TypeId} {name : String} {f : FuncId} (h : mthA P t name = some f) (n : Nat) (v : Value) (w : World) : (method (n + 1) t v name).run P w = .ok (f, v) w := by
  unfold mthA at h
  split at h
  · rename_i i d hi hd
    split at h
    · rename_i m hm
      split at h
      · rename_i hp
        have hp' : m.path.toList = [] := by simpa using hp
        split at h
        · rename_i g hg
          split at h
          · simp only [Option.some.injEq] at h; subst h
            simp [method, typeInfo, hi, hm, hp', follow, hg, receiverAt, run_underlying hd, Place.get]
          · simp at h
        · rename_i g hg
          split at h
          · simp at h
          · rename_i hne
            simp only [Option.some.injEq] at h; subst h
            have : ∀ o, (receiverAt t (.val v) false o).run P w = .ok v w := by
              intro o
              cases d <;> simp [receiverAt, run_underlying hd, Place.get]
              rename_i e; exact (hne e rfl).elim
            simp [method, typeInfo, hi, hm, hp', follow, hg, this]
        · simp at h
      · simp at h
    · simp at h
  · simp at h
theorem evO_wp (hc : CallOK P w0 call) {o : Oper} {τ : Tm} {a : Act} (hok : ∀ z ∈ o.op.operands.toList, OR μ τ a z) {r : AV} {H' : AH} (h : evO P call o τ H = some (r, H')) (hR : Rel P w0 H μ w)
    {K : Act → World → Prop} {Q : Exit → Act → World → Prop} (hK : ∀ u w' μ', Ext μ μ' → Rel P w0 H' μ' w' → VR μ' r u → K (a.put o.dst u) w') : o.wp P a w K Q := by
  have hplain : evOp P o.op τ H = some (r, H') → o.wp P a w K Q := fun h' => (evOp_sound hR o hok h').wp hK
  unfold evO at h
  split at h
  · rename_i c hop
    split at h
    · rename_i f hcal
      split at h
      · rename_i g fs ls xs hf hxs
        obtain ⟨callee, args, ats⟩ := c
        simp only at hcal
        subst hcal
        have hok' : ∀ z ∈ [f] ++ args.toList, OR μ τ a z := by
          rw [hop] at hok; simpa [Op.operands, Call.operands] using hok
        have h1 := hok' f (by simp) _ hf
        have h2 := opndL_sound (fun z hz => hok' z (List.mem_append.2 (.inr hz))) hxs
        simp only [VR] at h1
        obtain ⟨gs, cs, h3, h4, h5⟩ := h1
        have hvs : VRs μ (fs ++ xs ++ ls) (gs ++ args.map a.eval ++ cs).toList := by
          simp only [Array.toList_append, Array.toList_map]
          exact (h4.append h2).append h5
        obtain ⟨⟨fn, k1, k2, k3⟩, k4⟩ := hc g _ H r H' μ w _ h hR hvs
        have hrun : (execOp a.eval o).run P w = .ok (.enter g (gs ++ args.map a.eval ++ cs)) w := by
          simp only [execOp, hop, resolve, h3, Deferred.ofValue, Sem.run_bind, Sem.run_pure, Result.andThen_ok, invoke, callFunc, run_program, k1, k2, k3]
          simp
        unfold Oper.wp
        rw [hrun]
        simp only [Oper.upon]
        exact k4.mono fun e w' he => by
          obtain ⟨v, μ', rfl, e1, e2, e3⟩ := he
          exact hK v w' μ' e1 e2 e3
      · simp at h
    · rename_i r name hcal
      split at h
      · rename_i t rv xs hf hxs
        split at h
        · rename_i g hg
          obtain ⟨callee, args, ats⟩ := c
          simp only at hcal
          subst hcal
          have hok' : ∀ z ∈ [r] ++ args.toList, OR μ τ a z := by
            rw [hop] at hok; simpa [Op.operands, Call.operands] using hok
          have h1 := hok' r (by simp) _ hf
          have h2 := opndL_sound (fun z hz => hok' z (List.mem_append.2 (.inr hz))) hxs
          simp only [VR] at h1
          obtain ⟨u, h3, h4⟩ := h1
          have hvs : VRs μ (rv :: xs) (#[u] ++ args.map a.eval).toList := by
            simp only [Array.toList_append, Array.toList_map]
            exact ⟨u, _, rfl, h4, h2⟩
          obtain ⟨⟨fn, k1, k2, k3⟩, k4⟩ := hc g _ H _ H' μ w _ h hR hvs
          obtain ⟨n, hn⟩ : ∃ n, P.types.size + Made.depth = n + 1 := ⟨P.types.size + Made.depth - 1, by have : 0 < Made.depth := by decide
                                                                                                        omega⟩
          have hrun : (execOp a.eval o).run P w = .ok (.enter g (#[u] ++ args.map a.eval)) w := by
            have e1 : (#[a.eval r] ++ args.map a.eval)[0]? = some (.iface t u) := by rw [h3, Array.getElem?_append_left (by simp)]; simp
            have e2 : (#[a.eval r] ++ args.map a.eval).extract 1 (#[a.eval r] ++ args.map a.eval).size = args.map a.eval := by
              apply Array.ext'
              simp
              rw [List.take_of_length_le (by simp)]
            simp only [execOp, hop, resolve, Sem.run_bind, Sem.run_pure, Result.andThen_ok, invoke, e1, e2, callMethod, run_program, hn, method_run hg, callFunc, k1, k2, k3]
            simp
          unfold Oper.wp
          rw [hrun]
          simp only [Oper.upon]
          exact k4.mono fun e w' he => by
            obtain ⟨v, μ', rfl, e1, e2, e3⟩ := he
            exact hK v w' μ' e1 e2 e3
        · simp at h
      · simp at h
    · exact hplain h
  · exact hplain h

theorem wantA_sound {ops : Array Oper} {τ : Tm} {a : Act} {o : Oper} (hg : ∀ j want, o.guard = some (j, want) → ∀ d, (ops[j]?).bind (·.dst) = some d → d < a.tmps.size ∧ ∀ v, a.tmps[d]? = some v → VR μ (τ d) v) :
    Region.wanted o (yielded ops a.tmps) = wantA ops τ o := by
  unfold Region.wanted wantA
  split
  · rename_i e; rw [e]
  · rename_i j want e
    rw [e]
    simp only [yielded]
    cases hd : (ops[j]?).bind (·.dst) with
    | none => simp
    | some d =>
      obtain ⟨h1, h2⟩ := hg j want e d hd
      have hv := h2 a.tmps[d] (by simp [h1])
      simp only [Option.bind_some]
      rw [Array.getElem?_eq_getElem h1]
      generalize a.tmps[d] = v at hv
      cases hτ : τ d <;> rw [hτ] at hv <;> simp only [VR] at hv
      case bool b => subst hv; simp
      all_goals
        (try obtain ⟨_, _, _, _, rfl, _⟩ := hv) <;> (try obtain ⟨_, _, rfl, _⟩ := hv) <;> (try obtain ⟨_, _, rfl⟩ := hv) <;> (try obtain ⟨_, rfl, _⟩ := hv) <;> (try subst hv) <;> simp

/-- the slots that a region names are there -/
def okOper (n : Nat) (o : Oper) : Bool := okOp n o.op && (match o.dst with | some d => decide (d < n) | none => true)
def okOps (n : Nat) (ops : Array Oper) : Bool := ops.toList.all (okOper n)
theorem OR.of {τ : Tm} {a : Act} (hT : TR μ τ a.tmps) {x : Operand} (hx : okO a.tmps.size x = true) : OR μ τ a x := fun v hv => opnd_sound hT hx hv
theorem OR.all {τ : Tm} {a : Act} (hT : TR μ τ a.tmps) {n : Nat} (hn : a.tmps.size = n) {o : Oper} (ho : okOper n o = true) : ∀ z ∈ o.op.operands.toList, OR μ τ a z := by
  intro z hz
  unfold okOper okOp at ho
  rw [Bool.and_eq_true, List.all_eq_true] at ho
  exact OR.of hT (by rw [hn]; exact ho.1 z hz)
theorem okOps_get {n : Nat} {ops : Array Oper} (h : okOps n ops = true) {j : Nat} {o : Oper} (hj : ops[j]? = some o) : okOper n o = true := by
  unfold okOps at h
  rw [List.all_eq_true] at h
  exact h o (by rw [← Array.getElem?_toList] at hj; exact List.mem_of_getElem? hj)
theorem okOps_dst {n : Nat} {ops : Array Oper} (h : okOps n ops = true) {j : Nat} {d : Nat} (hd : (ops[j]?).bind (·.dst) = some d) : d < n := by
  cases hj : ops[j]? with
  | none => rw [hj] at hd; simp at hd
  | some o =>
    rw [hj] at hd; simp only [Option.bind_some] at hd
    have := okOps_get h hj
    unfold okOper at this
    rw [Bool.and_eq_true, hd] at this
    simpa using this.2

/-- the machine's state is the evaluator's -/
structure St (P : Program) (w0 : World) (n : Nat) (μ : Mu) (τ : Tm) (H : AH) (a : Act) (w : World) : Prop where
  rel : Rel P w0 H μ w
  tm : TR μ τ a.tmps
  size : a.tmps.size = n
  defers : a.defers = []

theorem St.want {n : Nat} {τ : Tm} {a : Act} (h : St P w0 n μ τ H a w) {ops : Array Oper} (hok : okOps n ops = true) (o : Oper) : Region.wanted o (yielded ops a.tmps) = wantA ops τ o :=
  wantA_sound (μ := μ) fun j want _ d hd => ⟨by rw [h.size]; exact okOps_dst hok hd, fun v hv => h.tm d v hv⟩
theorem VR_U : VR μ U undef := by simp only [U, VR]; exact ⟨#[], rfl, by simp [VRs]⟩
theorem St.put {n : Nat} {τ : Tm} {a : Act} (h : St P w0 n μ τ H a w) (d : Option Nat) {μ' : Mu} {H' : AH} {w' : World} {x : AV} {u : Value} (hx : Ext μ μ') (hR : Rel P w0 H' μ' w') (hv : VR μ' x u) :
    St P w0 n μ' (Ev.put τ d x) H' (a.put d u) w' :=
  ⟨hR, (h.tm.mono hx).put d hv, by rw [put_size]; exact h.size, by rw [put_defers]; exact h.defers⟩

theorem evOps_sound (hc : CallOK P w0 call) {n : Nat} {ops : Array Oper} (hok : okOps n ops = true) {Q : Exit → Act → World → Prop} :
    ∀ {l : List Oper} {τ τ' : Tm} {H H' : AH} {μ : Mu} {a : Act} {w : World}, (∀ o ∈ l, okOper n o = true) → evOps P call ops l τ H = some (τ', H') → St P w0 n μ τ H a w →
      (∀ a' w' μ', Ext μ μ' → St P w0 n μ' τ' H' a' w' → Q .normal a' w') → wpList P ops Q l a w
  | [], τ, τ', H, H', μ, a, w, _, h, hS, hQ => by
    simp only [evOps, Option.some.injEq, Prod.mk.injEq] at h
    obtain ⟨rfl, rfl⟩ := h
    exact hQ a w μ (Ext.refl _) hS
  | o :: l, τ, τ', H, H', μ, a, w, hl, h, hS, hQ => by
    simp only [evOps] at h
    split at h
    · rename_i τ1 H1 h1
      unfold stepA at h1
      have hw := hS.want hok o
      have hol := hl o (by simp)
      have hl' : ∀ o' ∈ l, okOper n o' = true := fun o' ho' => hl o' (by simp [ho'])
      split at h1
      · rename_i hwant
        split at h1
        · rename_i v H2 hv
          simp only [Option.some.injEq, Prod.mk.injEq] at h1
          obtain ⟨rfl, rfl⟩ := h1
          unfold wpList
          rw [hw, hwant]
          simp only [if_true]
          left
          exact evO_wp hc (OR.all hS.tm hS.size hol) hv hS.rel fun u w' μ' hx hR hu =>
            evOps_sound hc hok hl' h (hS.put o.dst hx hR hu) fun a' w' μ'' hx' hS' => hQ a' w' μ'' (hx.trans hx') hS'
        · simp at h1
      · rename_i hwant
        simp only [Option.some.injEq, Prod.mk.injEq] at h1
        obtain ⟨rfl, rfl⟩ := h1
        unfold wpList
        rw [hw]
        simp only [hwant]
        exact evOps_sound hc hok hl' h (hS.put o.dst (Ext.refl _) hS.rel VR_U) hQ
    · simp at h
end
end Go.Ev
