/- Lemmas of an evaluator of the given code and of what the functions answer; no condition of its own. -/
import Derived.Test.YtcblbbilllokkaaEv9
/- One element behind a slice of its own. -/
namespace Go.Ev
open Go Go.RowKit
set_option linter.unusedSimpArgs false
set_option linter.unusedVariables false

/-- Nothing but the blocks of bs turned; there may be new ones. -/
structure KoS (bs : List Nat) (H H' : AH) : Prop where
  next : H.next ≤ H'.next
  get : ∀ b, b < H.next → b ∉ bs → H'.get b = H.get b
theorem KoS.refl (bs : List Nat) (H : AH) : KoS bs H H := ⟨Nat.le_refl _, fun _ _ _ => rfl⟩
theorem KoL.koS {bs : List Nat} {A B : AH} (h : KoL bs A B) : KoS bs A B := ⟨by rw [h.next]; exact Nat.le_refl _, h.get⟩
theorem Kp.koS {A B : AH} (h : Kp A B) (bs : List Nat) : KoS bs A B := ⟨h.next, fun b hb _ => h.get b hb⟩
theorem KoS.mono {bs bs' : List Nat} {A B : AH} (h : KoS bs A B) (hs : ∀ b ∈ bs, b ∈ bs' ∨ A.next ≤ b) : KoS bs' A B :=
  ⟨h.next, fun b hn hb => h.get b hn fun hx => by rcases hs b hx with h | h; exact hb h; omega⟩
theorem KoS.trans {bs bs' : List Nat} {A B C : AH} (h : KoS bs A B) (k : KoS bs' B C) (hs : ∀ b ∈ bs', b ∈ bs ∨ A.next ≤ b) : KoS bs A C :=
  ⟨Nat.le_trans h.next k.next, fun b hn hb => (k.get b (Nat.lt_of_lt_of_le hn h.next) fun hx => by rcases hs b hx with h | h; exact hb h; omega).trans (h.get b hn hb)⟩
theorem KoS.kp {bs : List Nat} {A B C : AH} (h : Kp A B) (k : KoS bs B C) (hlo : ∀ b ∈ bs, A.next ≤ b) : Kp A C :=
  ⟨Nat.le_trans h.next k.next, fun b hb => by rw [k.get b (Nat.lt_of_lt_of_le hb h.next) fun hx => absurd (hlo b hx) (by omega)]; exact h.get b hb⟩
theorem Ty.R.koS {rw : Bool} {H H' : AH} {t : Ty} {c : List AV} {d : t.D} {bs bs' : List Nat} (h : t.R rw H c d bs) (hK : KoS bs' H H') (hd : ∀ b ∈ bs, b ∉ bs') : t.R rw H' c d bs :=
  h.stay hK.next fun b hb => hK.get b (h.mem b hb) (hd b hb)

theorem rows_int {rw : Bool} {H : AH} {k : IntKind} : ∀ {ds : List Int} {xs : List AV} {bs : List Nat}, Rows ((Ty.int k).R rw H) 1 xs ds bs ↔ xs = ds.map (.int k) ∧ bs = [] ∧ ∀ d ∈ ds, k.min ≤ d ∧ d ≤ k.max
  | [], xs, bs => by simp [Rows]
  | d :: ds, xs, bs => by
    constructor
    · rintro ⟨c, r, b1, b2, h1, h2, h3, ⟨h4, h5, h6, h7⟩, h8⟩
      obtain ⟨g1, g2, g3⟩ := rows_int.1 h8
      subst h1 h3 h4 h7 g1 g2
      exact ⟨by simp, by simp, by simpa using ⟨⟨h5, h6⟩, g3⟩⟩
    · rintro ⟨rfl, rfl, h3⟩
      exact ⟨[.int k d], ds.map (.int k), [], [], by simp, rfl, rfl, ⟨rfl, (h3 d (by simp)).1, (h3 d (by simp)).2, rfl⟩, rows_int.2 ⟨rfl, rfl, fun x hx => h3 x (by simp [hx])⟩⟩
variable {P : Program}
theorem conv_int {s d : TypeId} {ds : TypeDesc} {k k0 : IntKind} {n : Int} {H : AH} (hs : P.underlying s = some ds) (hd : P.underlying d = some (.int k)) : convA P s d (.int k0 n) H = some (.int k (k.wrap n), H) := by
  simp [convA, hs, hd]
theorem conv_same {s e : TypeId} {b o n : Nat} {H : AH} {e' : TypeId} {xs : List AV} (hs : P.underlying s = some (.slice e)) (he : P.underlying e = some (.int .u8)) (hb : H.get b = some (.cells e' false xs)) (hn : n ≠ 0) : convA P s s (.slice b o n) H = some (.slice b o n, H) := by
  simp [convA, hs, he, hb, hn]
theorem u8s_map : ∀ (l : List Int), u8s (l.map (.int .u8)) = some l
  | [] => rfl
  | x :: l => by simp [u8s, u8s_map l]
theorem conv_str {s d e : TypeId} {x : AV} {l : List Int} {H : AH} {bs : List Nat} {rw : Bool} (hs : P.underlying s = some (.slice e)) (hd : P.underlying d = some .string) (he : P.underlying e = some (.int .u8)) (h : (Ty.sl e (.int .u8)).R rw H [x] l bs) : convA P s d x H = some (.str (strOf l), H) := by
  have hr : rowOf 1 H x = some (l.map (.int .u8)) := by
    rcases h with ⟨h1, h2, h3⟩ | ⟨b, o, ro, xs, b', h1, h2, h3, h4, h5, h6, h7⟩
    · simp only [List.cons.injEq, and_true] at h1; subst h1 h2; rfl
    · simp only [List.cons.injEq, and_true] at h1; subst h1
      simp only [Ty.n, Nat.mul_one] at h6 h7
      obtain ⟨g1, g2, g3⟩ := rows_int.1 h7
      simp [rowOf, h4, h6, g1]
  cases x <;> simp [convA, hs, hd, he, hr, u8s_map] <;> simp [rowOf] at hr
theorem Ty.R.app1 {H : AH} {e T : TypeId} {t : Ty} {s : AV} {c : List AV} {ds : List t.D} {d : t.D} {bs b1 : List Nat} (h : (Ty.sl e t).R true H [s] ds bs) (hv : t.R true H c d b1) (hnd : (bs ++ b1).Nodup)
    (hT : P.underlying T = some (.slice e)) (hT' : sliceT P T = some e) (hs : sizeT P e = some t.n) {by_ : Nat} (hb : bytesT P e = some by_) {z : List AV} (hz : zeroT P e = some z) (hzl : z.length = t.n)
    (h1 : (ds.length + 1) * by_ ≤ 70368744177664) (h2 : ds.length + 1 ≤ 70368744177664) :
    ∃ s' H' bs', appA P T T s (.slice H.next 0 1) (H.push (.cells e false c)) = some (s', H') ∧ (Ty.sl e t).R true H' [s'] (ds ++ [d]) bs' ∧ bs'.Nodup ∧ (∀ b ∈ bs', b ∈ bs ∨ b ∈ b1 ∨ H.next ≤ b) ∧ KoS bs H H' := by
  have hc := hv.len
  have hnews : newsA P t.n T (.slice H.next 0 1) (H.push (.cells e false c)) = some (1, c) := by
    have ht : c.take t.n = c := by rw [← hc, List.take_length]
    simp [newsA, hT, rowOf, hc, ht]
  unfold appA
  simp only [hT', hs, hb, hz, hnews, if_pos hzl]
  rcases h with ⟨g1, g2, g3⟩ | ⟨b, o, ro, xs, b', g1, g2, g3, g4, g5, g6, g7⟩
  · simp only [List.cons.injEq, and_true] at g1; subst g1 g2 g3
    simp at h1
    refine ⟨.slice (H.next + 1) 0 1, (H.push (.cells e false c)).push (.cells e false c), (H.next + 1) :: b1, by simp [h1], .inr ⟨H.next + 1, 0, false, c, b1, rfl, rfl, by simp, by simp, fun _ => ⟨rfl, rfl, by simp [hc]⟩, by simp [hc], ?_⟩, ?_, ?_, ?_⟩
    · have ht : c.take t.n = c := by rw [← hc, List.take_length]
      simp only [List.nil_append, List.length_singleton, Nat.one_mul, List.drop_zero, ht]
      exact Rows.one (hv.stay (by simp; omega) fun x hx => by
        have := hv.mem x hx
        rw [AH.push_get, if_neg (by simp; omega), AH.push_get, if_neg (by omega)]) hc
    · rw [List.nodup_cons]
      exact ⟨fun hx => by have := hv.mem _ hx; omega, by simpa using hnd⟩
    · intro x hx
      rcases List.mem_cons.1 hx with rfl | hx
      · right; right; omega
      · exact .inr (.inl hx)
    · exact ⟨by simp; omega, fun x hx _ => by rw [AH.push_get, if_neg (by simp; omega), AH.push_get, if_neg (by omega)]⟩
  · simp only [List.cons.injEq, and_true] at g1; subst g1
    obtain ⟨rfl, rfl, hw⟩ := g5 rfl
    have hne : ¬ (b = H.next) := by omega
    have hxs : (xs.drop 0).take (ds.length * t.n) = xs := by rw [List.drop_zero, ← hw, List.take_length]
    rw [hxs] at g7
    subst g2
    have hnd' := hnd
    rw [List.nodup_append, List.nodup_cons] at hnd
    obtain ⟨⟨n1, n2⟩, n3, n4⟩ := hnd
    have hst : ∀ x, x < H.next → x ≠ b → (((H.push (.cells e false c)).kill b).push (.cells e false (xs ++ c))).get x = H.get x := by
      intro x hx hxb
      rw [AH.push_get, if_neg (by simp; omega), AH.kill_get, if_neg hxb, AH.push_get, if_neg (by omega)]
    have hge : (H.push (Blk.cells e false c)).get b = some (.cells e false xs) := by rw [AH.push_get, if_neg hne]; exact g4
    refine ⟨.slice (H.next + 1) 0 (ds.length + 1), ((H.push (.cells e false c)).kill b).push (.cells e false (xs ++ c)), (H.next + 1) :: (b' ++ b1), ?_, .inr ⟨H.next + 1, 0, false, xs ++ c, b' ++ b1, by simp, rfl, by simp, by simp, fun _ => ⟨rfl, rfl, ?_⟩, ?_, ?_⟩, ?_, ?_, ?_⟩
    · simp only [hge]
      rw [if_neg (by omega), if_pos ⟨trivial, by omega, h1, h2⟩, hxs]
      simp
    · rw [List.length_append, hc, hw, List.length_append, List.length_singleton, Nat.succ_mul]
    · rw [List.length_append, List.length_append, hc, hw, List.length_singleton, Nat.succ_mul]; omega
    · have : ((xs ++ c).drop 0).take ((ds ++ [d]).length * t.n) = xs ++ c := by
        rw [List.drop_zero, List.length_append, List.length_singleton, Nat.succ_mul, ← hw, ← hc, ← List.length_append, List.take_length]
      rw [this]
      refine (g7.imp fun c d b3 _ hb h => h.stay (by simp; omega) fun x hx => hst x (h.mem x hx) fun e => n1 (by rw [← e]; exact hb x hx)).app (Rows.one (hv.stay (by simp; omega) fun x hx => hst x (hv.mem x hx) fun e => n4 b (by simp) x hx e.symm) hc)
    · rw [List.nodup_cons, List.nodup_append]
      refine ⟨fun hx => ?_, n2, n3, fun x hx y hy => n4 x (by simp [hx]) y hy⟩
      rcases List.mem_append.1 hx with hx | hx
      · have := Rows.mem (fun c d bs h => Ty.R.mem h) g7 _ hx; omega
      · have := hv.mem _ hx; omega
    · intro x hx
      rcases List.mem_cons.1 hx with rfl | hx
      · right; right; omega
      · rcases List.mem_append.1 hx with hx | hx
        · exact .inl (by simp [hx])
        · exact .inr (.inl hx)
    · exact ⟨by simp; omega, fun x hx hxb => hst x hx fun e => hxb (by simp [e])⟩
/-- a row of whole numbers in one block of its own -/
theorem ints_one {H : AH} {e : TypeId} {k : IntKind} {l : List Int} {b : Nat} (hn : b < H.next) (hg : H.get b = some (.cells e false (l.map (.int k)))) (hb : ∀ d ∈ l, k.min ≤ d ∧ d ≤ k.max) : (Ty.sl e (.int k)).R true H [.slice b 0 l.length] l [b] := by
  refine .inr ⟨b, 0, false, l.map (.int k), [], rfl, rfl, hn, hg, fun _ => ⟨rfl, rfl, by simp [Ty.n]⟩, by simp [Ty.n], ?_⟩
  simp only [Ty.n, Nat.mul_one, List.drop_zero]
  have : (l.map (AV.int k)).take l.length = l.map (.int k) := by rw [List.take_of_length_le (by simp)]
  rw [this]
  exact rows_int.2 ⟨rfl, rfl, hb⟩
theorem ints_in {H : AH} {e : TypeId} {k : IntKind} {l : List Int} {s : AV} {bs : List Nat} {rw : Bool} (h : (Ty.sl e (.int k)).R rw H [s] l bs) : ∀ d ∈ l, k.min ≤ d ∧ d ≤ k.max := by
  rcases h with ⟨h1, h2, h3⟩ | ⟨b, o, ro, xs, b', h1, h2, h3, h4, h5, h6, h7⟩
  · subst h2; simp
  · simp only [Ty.n, Nat.mul_one] at h7
    exact (rows_int.1 h7).2.2
theorem ints_own {H : AH} {e : TypeId} {k : IntKind} {l : List Int} {s : AV} {bs : List Nat} (h : (Ty.sl e (.int k)).R true H [s] l bs) : (s = .nilSlice ∧ l = [] ∧ bs = []) ∨ ∃ b, bs = [b] ∧ s = .slice b 0 l.length ∧ b < H.next ∧ H.get b = some (.cells e false (l.map (.int k))) := by
  rcases h with ⟨h1, h2, h3⟩ | ⟨b, o, ro, xs, b', h1, h2, h3, h4, h5, h6, h7⟩
  · simp only [List.cons.injEq, and_true] at h1; subst h1 h2 h3
    exact .inl ⟨rfl, rfl, rfl⟩
  · simp only [List.cons.injEq, and_true] at h1; subst h1
    obtain ⟨rfl, rfl, hw⟩ := h5 rfl
    simp only [Ty.n, Nat.mul_one] at h6 h7 hw
    obtain ⟨g1, g2, g3⟩ := rows_int.1 h7
    rw [List.drop_zero, ← hw, List.take_length] at g1
    subst g1 g2
    exact .inr ⟨b, by rw [h2], rfl, h3, h4⟩
theorem ints_news {H : AH} {e T : TypeId} {k : IntKind} {l : List Int} {s : AV} {bs : List Nat} {rw : Bool} (h : (Ty.sl e (.int k)).R rw H [s] l bs) (hT : P.underlying T = some (.slice e)) : newsA P 1 T s H = some (l.length, l.map (.int k)) := by
  rcases h with ⟨h1, h2, h3⟩ | ⟨b, o, ro, xs, b', h1, h2, h3, h4, h5, h6, h7⟩
  · simp only [List.cons.injEq, and_true] at h1; subst h1 h2
    simp [newsA, hT]
  · simp only [List.cons.injEq, and_true] at h1; subst h1
    simp only [Ty.n, Nat.mul_one] at h6 h7
    obtain ⟨g1, g2, g3⟩ := rows_int.1 h7
    simp [newsA, hT, rowOf, h4, h6, g1]
/-- whole numbers behind a slice of its own -/
theorem Ty.R.appI {H : AH} {e T : TypeId} {k : IntKind} {s x : AV} {ds xs : List Int} {bs bx : List Nat} {rx : Bool} (h : (Ty.sl e (.int k)).R true H [s] ds bs) (hx : (Ty.sl e (.int k)).R rx H [x] xs bx)
    (hT : P.underlying T = some (.slice e)) (hT' : sliceT P T = some e) (hs : sizeT P e = some 1) {by_ : Nat} (hb : bytesT P e = some by_) {z : List AV} (hz : zeroT P e = some z) (hzl : z.length = 1)
    (h1 : (ds.length + xs.length) * by_ ≤ 70368744177664) (h2 : ds.length + xs.length ≤ 70368744177664) :
    ∃ s' H' bs', appA P T T s x H = some (s', H') ∧ (Ty.sl e (.int k)).R true H' [s'] (ds ++ xs) bs' ∧ bs'.Nodup ∧ (∀ b ∈ bs', b ∈ bs ∨ H.next ≤ b) ∧ KoS bs H H' := by
  have hn := ints_news (P := P) hx hT
  have hin : ∀ d ∈ ds ++ xs, k.min ≤ d ∧ d ≤ k.max := by
    intro d hd
    rcases List.mem_append.1 hd with hd | hd
    · exact ints_in h d hd
    · exact ints_in hx d hd
  unfold appA
  simp only [hT', hs, hb, hz, hn, if_pos hzl]
  rcases ints_own h with ⟨rfl, rfl, rfl⟩ | ⟨b, rfl, rfl, hlt, hg⟩
  · by_cases h0 : xs.length = 0
    · have : xs = [] := List.eq_nil_of_length_eq_zero h0
      subst this
      exact ⟨.nilSlice, H, [], by simp, .inl ⟨rfl, rfl, rfl⟩, by simp, by simp, KoS.refl _ _⟩
    · simp only [List.length_nil, Nat.zero_add] at h1 h2
      refine ⟨.slice H.next 0 xs.length, H.push (.cells e false (xs.map (.int k))), [H.next], by simp [h0, h1, h2], ?_, by simp, by simp, ((Kp.refl H).push _).koS _⟩
      simpa using ints_one (l := xs) (by simp) (by simp) (by simpa using hin)
  · by_cases h0 : xs.length = 0
    · have : xs = [] := List.eq_nil_of_length_eq_zero h0
      subst this
      exact ⟨.slice b 0 ds.length, H, [b], by simp, by simpa using h, by simp, by simp, KoS.refl _ _⟩
    · refine ⟨.slice H.next 0 (ds.length + xs.length), (H.kill b).push (.cells e false ((ds ++ xs).map (.int k))), [H.next], ?_, ?_, by simp, by simp, ⟨by simp, ?_⟩⟩
      · have ht : ((ds.map (AV.int k)).drop 0).take (ds.length * 1) = ds.map (.int k) := by rw [Nat.mul_one, List.drop_zero, List.take_of_length_le (by simp)]
        simp only [if_neg h0, hg, ht]
        rw [if_pos ⟨trivial, by simp, h1, h2⟩, ← List.map_append]
      · have := ints_one (e := e) (k := k) (H := (H.kill b).push (.cells e false ((ds ++ xs).map (.int k)))) (b := H.next) (l := ds ++ xs) (by simp) (by simp) hin
        simpa using this
      · intro c hc hcb
        simp only [List.mem_singleton] at hcb
        rw [AH.push_get, if_neg (by simp; omega), AH.kill_get, if_neg hcb]
end Go.Ev

/- Bytes and rows of bytes by kinds of data: eqByteSS, markByteSS, heldByteSS. -/
namespace Go.Ev
open Go Go.Proofs
set_option linter.unusedSimpArgs false
set_option linter.unusedVariables false

abbrev tB : Ty := .sl 5 (.int .u8)
abbrev tBB : Ty := .sl 22 tB
theorem u8_mm : IntKind.min .u8 = 0 ∧ IntKind.max .u8 = 255 := by decide
theorem By.iff (l : List Int) : By l ↔ ∀ d ∈ l, IntKind.min .u8 ≤ d ∧ d ≤ IntKind.max .u8 := by
  rw [u8_mm.1, u8_mm.2]
  constructor
  · intro h d hd; have := h d hd; omega
  · intro h d hd; have := h d hd; omega
theorem tB_bs {H : AH} {s : AV} {l : List Int} {rw : Bool} {bs : List Nat} (h : tB.R rw H [s] l bs) : Bs H s l ∧ By l := by
  rcases h with ⟨h1, h2, h3⟩ | ⟨b, o, ro, xs, b', h1, h2, h3, h4, h5, h6, h7⟩
  · simp only [List.cons.injEq, and_true] at h1; subst h1 h2
    exact ⟨Bs.nil _, by simp [By]⟩
  · simp only [List.cons.injEq, and_true] at h1; subst h1
    simp only [Ty.n, Nat.mul_one] at h6 h7
    obtain ⟨g1, g2, g3⟩ := rows_int.1 h7
    refine ⟨⟨by simp, by simp, by simp, .inr ⟨b, o, ro, xs, by simp [u8L], h3, h4, by simpa [u8L] using h6, by simpa [u8L] using g1⟩⟩, (By.iff l).2 g3⟩
theorem bs_tB {H : AH} {s : AV} {l : List Int} (h : Bs H s l) (hb : By l) : ∃ bs, tB.R false H [s] l bs := by
  rcases h.lie with ⟨rfl, h2⟩ | ⟨b, o, ro, xs, rfl, hn, hb', hl, hx⟩
  · have : l = [] := by simpa [u8L] using h2
    subst this
    exact ⟨[], .inl ⟨rfl, rfl, rfl⟩⟩
  · simp only [u8L_len] at *
    refine ⟨[b], .inr ⟨b, o, ro, xs, [], rfl, rfl, hn, hb', by simp, by simpa [Ty.n] using hl, ?_⟩⟩
    simp only [Ty.n, Nat.mul_one]
    exact rows_int.2 ⟨hx, rfl, (By.iff l).1 hb⟩
theorem tB_one {H : AH} {s : AV} {l : List Int} {bs : List Nat} (h : tB.R true H [s] l bs) : (s = .nilSlice ∧ l = [] ∧ bs = []) ∨ ∃ b, bs = [b] ∧ s = .slice b 0 l.length ∧ b < H.next ∧ H.get b = some (.cells 5 false (u8L l)) := by
  rcases h with ⟨h1, h2, h3⟩ | ⟨b, o, ro, xs, b', h1, h2, h3, h4, h5, h6, h7⟩
  · simp only [List.cons.injEq, and_true] at h1; subst h1 h2 h3
    exact .inl ⟨rfl, rfl, rfl⟩
  · simp only [List.cons.injEq, and_true] at h1; subst h1
    obtain ⟨rfl, rfl, hw⟩ := h5 rfl
    simp only [Ty.n, Nat.mul_one] at h6 h7 hw
    obtain ⟨g1, g2, g3⟩ := rows_int.1 h7
    rw [List.drop_zero, ← hw, List.take_length] at g1
    subst g1 g2
    exact .inr ⟨b, by rw [h2], rfl, h3, h4⟩
theorem one_tB {H : AH} {l : List Int} {b : Nat} (hn : b < H.next) (hg : H.get b = some (.cells 5 false (u8L l))) (hb : By l) : tB.R true H [.slice b 0 l.length] l [b] := by
  refine .inr ⟨b, 0, false, u8L l, [], rfl, rfl, hn, hg, fun _ => ⟨rfl, rfl, by simp [u8L, Ty.n]⟩, by simp [u8L, Ty.n], ?_⟩
  simp only [Ty.n, Nat.mul_one, List.drop_zero]
  have : (u8L l).take l.length = u8L l := by rw [← u8L_len, List.take_length]
  rw [this]
  exact rows_int.2 ⟨rfl, rfl, (By.iff l).1 hb⟩
theorem ow_tB {lo hi : Nat} {H : AH} {s : AV} {l : List Int} (h : Ow lo hi H s l) (hb : By l) : ∃ bs, tB.R true H [s] l bs ∧ bs.Nodup ∧ ∀ b ∈ bs, lo ≤ b ∧ b < hi := by
  rcases h with ⟨rfl, rfl⟩ | ⟨b, h1, h2, h3, rfl, h4⟩
  · exact ⟨[], .inl ⟨rfl, rfl, rfl⟩, by simp, by simp⟩
  · exact ⟨[b], one_tB (by omega) h4 hb, by simp, by simp; omega⟩
theorem marks_by (k : Int) (n : Nat) : By (marks k n) := by
  intro x hx
  simp only [marks, List.mem_map] at hx
  obtain ⟨i, _, rfl⟩ := hx
  omega
theorem mk_tB : ∀ (l : List Int) (k : Int), tB.mk false k l = marks k l.length
  | [], k => rfl
  | d :: l, k => by
    have h := mk_tB l (k + 1)
    have e : tB.mk false k (d :: l) = (k % 256) :: tB.mk false (k + 1) l := by
      show mkRow _ _ _ _ = _
      simp only [mkRow, Ty.mk, Ty.cnt]
      simp [IntKind.wrap_u8]
    rw [e, h, List.length_cons, marks, marks, List.range_succ_eq_map]
    simp
    intro a _; congr 1; omega
theorem cnt_tB (l : List Int) : tB.cnt false l = l.length := cnt_int _ l
/-- markByteS -/
theorem markB {H : AH} {s : AV} {l : List Int} {bs : List Nat} (h : tB.R true H [s] l bs) (hl : l.length ≤ 70368744177664) (k : Int) (hk0 : 0 ≤ k) (hk1 : k ≤ 70368744177664) (m : Nat) (hm : l.length + 2 ≤ m) :
    ∃ H', ev Try.prog m 12 [s, .int .i64 k] H = some (.int .i64 (k + (tB.cnt false l : Nat)), H') ∧ KoL bs H H' ∧ tB.R true H' [s] (tB.mk false k l) bs := by
  rw [mk_tB, cnt_tB]
  rcases tB_one h with ⟨rfl, rfl, rfl⟩ | ⟨b, rfl, rfl, hn, hg⟩
  · obtain ⟨H', g1, g2, g3, g4⟩ := markByteS_ev (lo := H.next) (hi := H.next) (H := H) (s := .nilSlice) (l := []) (.inl ⟨rfl, rfl⟩) (by simp) k hk0 hk1 m hm
    exact ⟨H', g1, ⟨g3, fun b hb _ => g2.get b hb (by omega)⟩, .inl ⟨rfl, rfl, rfl⟩⟩
  · obtain ⟨H', g1, g2, g3, g4⟩ := markByteS_ev (lo := b) (hi := b + 1) (.inr ⟨b, Nat.le_refl _, by omega, by omega, rfl, hg⟩) hl k hk0 hk1 m hm
    refine ⟨H', g1, ⟨g3, fun c hc hcb => g2.get c hc (by simp at hcb; omega)⟩, ?_⟩
    rcases g4 with ⟨e1, e2⟩ | ⟨b', q1, q2, q3, q4, q5⟩
    · simp at e1
    · have : b' = b := by omega
      subst this
      have := one_tB (by omega) q5 (marks_by _ _)
      rw [marks_len] at this
      exact this
/-- heldByteS -/
theorem heldB {H : AH} {s : AV} {l : List Int} {bs : List Nat} {rw : Bool} {k : Int} (h : tB.R rw H [s] (tB.mk false k l) bs) (hl : l.length ≤ 70368744177664) (hk0 : 0 ≤ k) (hk1 : k ≤ 70368744177664) (m : Nat) (hm : l.length + 2 ≤ m) :
    ev Try.prog m 42 [s, .int .i64 k] H = some (.int .i64 (k + (tB.cnt false l : Nat)), H) := by
  rw [mk_tB] at h
  rw [cnt_tB]
  exact heldByteS_ev k l.length (tB_bs h).1 hl hk0 hk1 m hm
theorem eqB {H : AH} {s1 s2 : AV} {l1 l2 : List Int} {b1 b2 : List Nat} {r1 r2 : Bool} (h1 : tB.R r1 H [s1] l1 b1) (h2 : tB.R r2 H [s2] l2 b2) (hl : l1.length ≤ 70368744177664) (m : Nat) (hm : l1.length + 2 ≤ m) :
    ev Try.prog m 11 [s1, s2] H = some (.bool (decide (l1 = l2)), H) := eqByteS_ev (tB_bs h1).1 (tB_bs h2).1 hl m hm
end Go.Ev

/- Rows of bytes: eqByteSS, markByteSS, heldByteSS. -/
namespace Go.Ev
open Go Go.Proofs
set_option linter.unusedSimpArgs false
set_option linter.unusedVariables false

/-- the greatest row -/
def Small (N : Nat) (ls : List (List Int)) : Prop := ls.length ≤ N ∧ ∀ l ∈ ls, l.length ≤ N
theorem cntBB_le {N : Nat} : ∀ (ls : List (List Int)), (∀ l ∈ ls, l.length ≤ N) → cntL (tB.cnt false) ls ≤ ls.length * N
  | [], _ => by simp [cntL]
  | l :: ls, h => by
    have h1 := cntBB_le ls fun x hx => h x (by simp [hx])
    have h2 := h l (by simp)
    simp only [cntL, List.length_cons, Nat.succ_mul]
    rw [cnt_tB]; omega
theorem cntBB (ls : List (List Int)) : tBB.cnt false ls = cntL (tB.cnt false) ls := rfl
theorem mkBB (k : Int) (ls : List (List Int)) : tBB.mk false k ls = mkRow (tB.mk false) (tB.cnt false) k ls := rfl
theorem cntL_take_succ {α : Type} (c : α → Nat) (l : List α) (k : Nat) (hk : k < l.length) : cntL c (l.take (k + 1)) = cntL c (l.take k) + c l[k] := by
  rw [List.take_add_one, List.getElem?_eq_getElem hk, cntL_app]; simp [cntL]
theorem cntL_take_le {α : Type} (c : α → Nat) (l : List α) (k : Nat) : cntL c (l.take k) ≤ cntL c l := by
  conv => rhs; rw [← List.take_append_drop k l]
  rw [cntL_app]; omega
theorem mkRow_set {α : Type} (f : Int → α → α) (c : α → Nat) (k0 : Int) (l : List α) (k : Nat) (hk : k < l.length) :
    (mkRow f c k0 (l.take k) ++ l.drop k).set k (f (k0 + (cntL c (l.take k) : Nat)) l[k]) = mkRow f c k0 (l.take (k + 1)) ++ l.drop (k + 1) := by
  have hl : (mkRow f c k0 (l.take k)).length = k := by rw [mkRow_len]; simp; omega
  rw [List.set_append_right _ _ (by omega), hl, Nat.sub_self, List.drop_eq_getElem_cons hk, List.set_cons_zero, List.take_add_one, List.getElem?_eq_getElem hk, mkRow_app]
  simp [mkRow]
theorem mkRow_at {α : Type} (f : Int → α → α) (c : α → Nat) (k0 : Int) (l : List α) (k : Nat) (hk : k < l.length) (hk' : k < (mkRow f c k0 (l.take k) ++ l.drop k).length) : (mkRow f c k0 (l.take k) ++ l.drop k)[k] = l[k] := by
  have hl : (mkRow f c k0 (l.take k)).length = k := by rw [mkRow_len]; simp; omega
  rw [List.getElem_append_right (by omega)]
  simp [hl]
theorem mkRow_get {α : Type} (f : Int → α → α) (c : α → Nat) : ∀ (l : List α) (k0 : Int) (k : Nat) (hk : k < l.length) (hk' : k < (mkRow f c k0 l).length), (mkRow f c k0 l)[k] = f (k0 + (cntL c (l.take k) : Nat)) l[k]
  | d :: l, k0, 0, hk, hk' => by simp [mkRow, cntL]
  | d :: l, k0, k + 1, hk, hk' => by
    simp only [mkRow, List.getElem_cons_succ]
    rw [mkRow_get f c l (k0 + c d) k (by simpa using hk)]
    simp only [List.take_succ_cons, cntL]
    congr 1; push_cast; omega

theorem markBB {H : AH} {s : AV} {ls : List (List Int)} {bs : List Nat} (h : tBB.R true H [s] ls bs) (hnd : bs.Nodup) {N : Nat} (hS : Small N ls) (hN : N ≤ 1048576) (k0 : Int) (hk0 : 0 ≤ k0) (hk1 : k0 ≤ 1048576) (m : Nat) (hm : N + 4 ≤ m) :
    ∃ H', ev Try.prog m 13 [s, .int .i64 k0] H = some (.int .i64 (k0 + (tBB.cnt false ls : Nat)), H') ∧ KoL bs H H' ∧ tBB.R true H' [s] (tBB.mk false k0 ls) bs := by
  obtain ⟨m, rfl⟩ : ∃ k, m = k + 1 := ⟨m - 1, by omega⟩
  have hc := cntBB_le ls hS.2
  have hc2 : ls.length * N ≤ 1048576 * 1048576 := Nat.mul_le_mul (by have := hS.1; omega) hN
  rw [ev_eq Try.func13 ok13 m _ H (by simp [Try.f13])]
  simp [Try.f13]
  generalize hL : evLoop _ _ _ _ _ _ = R
  rw [cntBB, mkBB]
  obtain ⟨e, τ', H', rfl, g1, g2, g3, g4⟩ := loop_at hL (loop_rule (d := ls.length)
    (fun d τ h => ∃ k : Nat, k + d = ls.length ∧ τ 0 = s ∧ τ 1 = .int .i64 (k0 + (cntL (tB.cnt false) (ls.take k) : Nat)) ∧ τ 5 = .int .i64 k ∧ KoL bs H h ∧ tBB.R true h [s] (mkRow (tB.mk false) (tB.cnt false) k0 (ls.take k) ++ ls.drop k) bs)
    (fun e τ h => e = .exit 0 ∧ τ 1 = .int .i64 (k0 + (cntL (tB.cnt false) ls : Nat)) ∧ KoL bs H h ∧ tBB.R true h [s] (mkRow (tB.mk false) (tB.cnt false) k0 ls) bs)
    (by
      rintro d τ h' ⟨k, hk, t0, t1, t5, hK, hR⟩
      have hlen : (mkRow (tB.mk false) (tB.cnt false) k0 (ls.take k) ++ ls.drop k).length = ls.length := by simp [mkRow_len]; omega
      have hl := Ty.R.lenA hR (P := Try.prog) (T := 23) (by simp) h'
      rw [hlen] at hl
      by_cases hd : d = 0
      · subst hd
        have : k = ls.length := by omega
        subst this
        rewrite [lp13_26]
        simp [Try.f13, t0, t1, t5, hl]
        exact ⟨hK, by simpa using hR⟩
      · have hlt : k < ls.length := by omega
        obtain ⟨b, o, x1, c, x2, bk, u1, u2, u3, u4, u5, u6, u7, u8, u9, u10⟩ := Ty.R.upd hR hnd (P := Try.prog) (T := 23) (by simp) (by simp [Ty.n]) (k := k) (by omega)
        rw [mkRow_at _ _ _ _ _ hlt] at u5
        obtain ⟨v, rfl⟩ : ∃ v, c = [v] := List.length_eq_one_iff.1 (Ty.R.len u5)
        have hld := ld_mid0 u3 u4 (P := Try.prog) (T := 22) (by simp)
        have hle := hS.2 ls[k] (List.getElem_mem hlt)
        have hlN := hS.1
        have hct := cntL_take_le (tB.cnt false) ls k
        obtain ⟨h2, v1, v2, v3⟩ := markB u5 (by omega) (k0 + (cntL (tB.cnt false) (ls.take k) : Nat)) (by omega) (by omega) m (by omega)
        have hR2 := u10 h2 _ _ (by rw [v2.next]; exact Nat.le_refl _) (fun x hx hxb hxk => v2.get x (Ty.R.mem hR x hx) hxk) (by rw [v2.get b u2 u8]; exact u3) v3
        rw [mkRow_set _ _ _ _ _ hlt] at hR2
        rewrite [lp13_26]
        simp [Try.f13, t0, t1, t5, hl, hlt, u1, hld, v1, wrap_i64 (n := (k : Int) + 1) (by omega) (by omega)]
        exact ⟨d - 1, by omega, k + 1, by omega, by rw [cntL_take_succ _ _ _ hlt]; push_cast; omega, by simp, hK.trans (v2.mono u6), hR2⟩)
    ⟨0, by simp, by simp, by simp [cntL], by simp, KoL.refl _ _, by simpa [mkRow] using h⟩ (by have := hS.1; omega))
  simp [g1, g2]
  exact ⟨g3, g4⟩
theorem heldBB {H : AH} {s : AV} {ls : List (List Int)} {bs : List Nat} {rw : Bool} {k0 : Int} (h : tBB.R rw H [s] (tBB.mk false k0 ls) bs) {N : Nat} (hS : Small N ls) (hN : N ≤ 1048576) (hk0 : 0 ≤ k0) (hk1 : k0 ≤ 1048576) (m : Nat) (hm : N + 4 ≤ m) :
    ev Try.prog m 14 [s, .int .i64 k0] H = some (.int .i64 (k0 + (tBB.cnt false ls : Nat)), H) := by
  obtain ⟨m, rfl⟩ : ∃ k, m = k + 1 := ⟨m - 1, by omega⟩
  have hc := cntBB_le ls hS.2
  have hc2 : ls.length * N ≤ 1048576 * 1048576 := Nat.mul_le_mul (by have := hS.1; omega) hN
  rw [ev_eq Try.func14 ok14 m _ H (by simp [Try.f14])]
  simp [Try.f14]
  generalize hL : evLoop _ _ _ _ _ _ = R
  rw [cntBB]
  rw [mkBB] at h
  have hl := Ty.R.lenA h (P := Try.prog) (T := 23) (by simp)
  rw [mkRow_len] at hl
  obtain ⟨e, τ', H', rfl, g1, g2, g3⟩ := loop_at hL (loop_rule (d := ls.length)
    (fun d τ h' => ∃ k : Nat, k + d = ls.length ∧ τ 0 = s ∧ τ 1 = .int .i64 (k0 + (cntL (tB.cnt false) (ls.take k) : Nat)) ∧ τ 5 = .int .i64 k ∧ h' = H)
    (fun e τ h' => e = .exit 0 ∧ τ 1 = .int .i64 (k0 + (cntL (tB.cnt false) ls : Nat)) ∧ h' = H)
    (by
      rintro d τ h' ⟨k, hk, t0, t1, t5, rfl⟩
      by_cases hd : d = 0
      · subst hd
        have : k = ls.length := by omega
        subst this
        rewrite [lp14_26]
        simp [Try.f14, t0, t1, t5, hl]
      · have hlt : k < ls.length := by omega
        obtain ⟨b, o, ro, x1, c, x2, bk, u1, u2, u3, u4, u5, u6, u7, u8⟩ := Ty.R.at_ h (P := Try.prog) (T := 23) (by simp) (by simp [Ty.n]) (k := k) (by rw [mkRow_len]; exact hlt)
        rw [mkRow_get _ _ _ _ _ hlt] at u5
        obtain ⟨v, rfl⟩ : ∃ v, c = [v] := List.length_eq_one_iff.1 (Ty.R.len u5)
        have hld := ld_mid0 u3 u4 (P := Try.prog) (T := 22) (by simp)
        have hle := hS.2 ls[k] (List.getElem_mem hlt)
        have hlN := hS.1
        have hct := cntL_take_le (tB.cnt false) ls k
        have v1 := heldB u5 (by omega) (by omega) (by omega) m (by omega)
        have hnn : ¬ (k0 + (cntL (tB.cnt false) (ls.take k) : Nat) + (tB.cnt false ls[k] : Nat) < 0) := by omega
        rewrite [lp14_26]
        simp [Try.f14, t0, t1, t5, hl, hlt, u1, hld, v1, hnn, wrap_i64 (n := (k : Int) + 1) (by omega) (by omega)]
        exact ⟨d - 1, by omega, k + 1, by omega, by rw [cntL_take_succ _ _ _ hlt]; push_cast; omega, by simp⟩)
    ⟨0, by simp, by simp, by simp [cntL], by simp, rfl⟩ (by have := hS.1; omega))
  simp [g1, g2, g3]
theorem eqBB {H : AH} {s1 s2 : AV} {l1 l2 : List (List Int)} {b1 b2 : List Nat} {r1 r2 : Bool} (h1 : tBB.R r1 H [s1] l1 b1) (h2 : tBB.R r2 H [s2] l2 b2) {N : Nat} (hS : Small N l1) (hN : N ≤ 1048576) (m : Nat) (hm : N + 4 ≤ m) :
    ev Try.prog m 10 [s1, s2] H = some (.bool (decide (l1 = l2)), H) := by
  obtain ⟨m, rfl⟩ : ∃ k, m = k + 1 := ⟨m - 1, by omega⟩
  have e1 := Ty.R.lenA h1 (P := Try.prog) (T := 23) (by simp)
  have e2 := Ty.R.lenA h2 (P := Try.prog) (T := 23) (by simp)
  rw [ev_eq Try.func10 ok10 m _ H (by simp [Try.f10])]
  by_cases hlen : l1.length = l2.length
  · simp [Try.f10, e1, e2, hlen]
    generalize hL : evLoop _ _ _ _ _ _ = R
    obtain ⟨e, τ', H', rfl, g1, g2⟩ := loop_at hL (loop_rule (d := l1.length)
      (fun d τ h' => ∃ k : Nat, k + d = l1.length ∧ τ 0 = s1 ∧ τ 1 = s2 ∧ τ 5 = .int .i64 k ∧ h' = H ∧ l1.take k = l2.take k)
      (fun e τ h' => h' = H ∧ ((e = .exit 0 ∧ l1 = l2) ∨ (e = .ret ∧ τ 4 = .bool false ∧ ¬ l1 = l2)))
      (by
        rintro d τ h' ⟨k, hk, t0, t1, t5, rfl, hpre⟩
        by_cases hd : d = 0
        · subst hd
          have : k = l1.length := by omega
          subst this
          have : l1 = l2 := by rw [List.take_length] at hpre; rw [hlen, List.take_length] at hpre; exact hpre
          rewrite [lp10_58]
          simp [Try.f10, t0, t1, t5, e1]
          exact this
        · have hlt : k < l1.length := by omega
          have hlt2 : k < l2.length := by omega
          obtain ⟨b, o, ro, x1, c, x2, bk, u1, u2, u3, u4, u5, u6, u7, u8⟩ := Ty.R.at_ h1 (P := Try.prog) (T := 23) (by simp) (by simp [Ty.n]) (k := k) hlt
          obtain ⟨b', o', ro', y1, c', y2, bk', w1, w2, w3, w4, w5, w6, w7, w8⟩ := Ty.R.at_ h2 (P := Try.prog) (T := 23) (by simp) (by simp [Ty.n]) (k := k) hlt2
          obtain ⟨v, rfl⟩ : ∃ v, c = [v] := List.length_eq_one_iff.1 (Ty.R.len u5)
          obtain ⟨v', rfl⟩ : ∃ v, c' = [v] := List.length_eq_one_iff.1 (Ty.R.len w5)
          have hld := ld_mid0 u3 u4 (P := Try.prog) (T := 22) (by simp)
          have hld' := ld_mid0 w3 w4 (P := Try.prog) (T := 22) (by simp)
          have hle := hS.2 l1[k] (List.getElem_mem hlt)
          have hlN := hS.1
          have q := eqB u5 w5 (by omega) m (by omega)
          by_cases hq : l1[k] = l2[k]
          · simp only [hq, decide_true] at q
            rewrite [lp10_58]
            simp [Try.f10, t0, t1, t5, e1, hlt, u1, w1, hld, hld', q, evHist, ObsOk, ObOk, wrap_i64 (n := (k : Int) + 1) (by omega) (by omega)]
            refine ⟨d - 1, by omega, k + 1, by omega, by simp, ?_⟩
            rw [List.take_add_one, List.take_add_one, hpre, List.getElem?_eq_getElem hlt, List.getElem?_eq_getElem hlt2, hq]
          · simp only [hq, decide_false] at q
            have : ¬ l1 = l2 := fun e => hq (by subst e; rfl)
            rewrite [lp10_58]
            simp [Try.f10, t0, t1, t5, e1, hlt, u1, w1, hld, hld', q, evHist, ObsOk, ObOk]
            exact this)
      ⟨0, by simp, by simp, by simp, by simp, rfl, by simp⟩ (by have := hS.1; omega))
    rcases g2 with ⟨rfl, g⟩ | ⟨rfl, g, g'⟩
    · simp [g1, g]
    · simp [g1, g, g']
  · have hlen' : ¬ ((l1.length : Int) = l2.length) := by omega
    have hne : ¬ l1 = l2 := fun e => hlen (by rw [e])
    simp [Try.f10, e1, e2, hlen', hne]
end Go.Ev

/- SplitDatagram, the program's and the specification's. -/
namespace Go.Ev
open Go Go.Proofs
set_option linter.unusedSimpArgs false
set_option linter.unusedVariables false

theorem takeI_end {l : List Int} {a : Nat} {c n : Int} (h : (takeI l a c n).2.2 = 0) : (takeI l a c n).2.1 ≤ l.length ∨ (takeI l a c n).2.1 = a := by
  unfold takeI at h ⊢
  split
  · rename_i hc; rw [if_pos hc] at h; simp at h; exact absurd h hc
  · rename_i hc
    rw [if_neg hc] at h
    split
    · rename_i h2; rw [if_pos h2] at h; simp at h
    · left; simp; omega
theorem endP_n {l : List Int} {f v : Int} {D S T : List Int} {a : Nat} {c : Int} (h : (endP l f v D S T a c).c = 0) : 0 ≤ (endP l f v D S T a c).n ∧ (endP l f v D S T a c).n ≤ l.length := by
  unfold endP at h ⊢
  generalize numberI l a c = X at *
  generalize hY : (if ((X.2.2 = 0 ∧ (X.1 < 12 ∨ 1508 < X.1)) ∧ X.2.2 = 0) then (3 : Int) else X.2.2) = Y at *
  split
  · rename_i hc; rw [if_pos hc] at h; exact absurd h (by simpa [perr] using hc)
  · rename_i hc
    have hc : (takeI l X.2.1 Y X.1).2.2 = 0 := by simpa using hc
    refine ⟨Int.natCast_nonneg _, ?_⟩
    have := hc
    unfold takeI at this ⊢
    by_cases h1 : Y = 0
    · subst h1
      simp at this ⊢
      by_cases h2 : X.1 < 0 ∨ (l.length : Int) - X.2.1 < X.1
      · simp [h2] at this
      · simp [h2]; omega
    · simp [h1] at this
theorem peekP_n (l : List Int) (cid : Int) (h : (peekP l cid).c = 0) : 0 ≤ (peekP l cid).n ∧ (peekP l cid).n ≤ l.length := by
  unfold peekP at h ⊢
  split
  · rename_i hc; rw [if_pos hc] at h; exact absurd h (by simpa [perr] using hc)
  · rename_i hc
    rw [if_neg hc] at h
    split
    · rename_i h1; rw [if_pos h1] at h; simp [perr] at h
    · rename_i h1
      rw [if_neg h1] at h
      split
      · rename_i h2
        rw [if_pos h2] at h
        split
        · rename_i h3; rw [if_pos h3] at h; exact absurd h (by simpa [perr] using h3)
        · simp
      · rename_i h2
        rw [if_neg h2] at h
        unfold idsP longP at h ⊢
        split
        · rename_i h3; rw [if_pos h3] at h; exact absurd h (by simpa [perr] using h3)
        · rename_i h3
          rw [if_neg h3] at h
          split
          · rename_i h4
            rw [if_pos h4] at h
            split
            · simp
            · rename_i h5; rw [if_neg h5] at h; simp [perr] at h
          · rename_i h4
            rw [if_neg h4] at h
            split
            · rename_i h5; rw [if_pos h5] at h; simp [perr] at h
            · rename_i h5
              rw [if_neg h5] at h
              split
              · rename_i h6
                rw [if_pos h6] at h
                split
                · rename_i h7; rw [if_pos h7] at h; simp [perr] at h
                · rename_i h7
                  rw [if_neg h7] at h
                  split
                  · rename_i h8; rw [if_pos h8] at h; simp [perr] at h
                  · simp
              · rename_i h6
                rw [if_neg h6] at h
                split
                · rename_i h7; rw [if_pos h7] at h; exact endP_n h
                · rename_i h7
                  rw [if_neg h7] at h
                  unfold tokP at h ⊢
                  exact endP_n h
/-- the packets, at most n -/
def splitL (cid : Int) : Nat → List Int → List (List Int)
  | 0, _ => []
  | n + 1, l => if l.length = 0 then [] else if (peekP l cid).c ≠ 0 then [] else l.take (peekP l cid).n.toNat :: splitL cid n (l.drop (peekP l cid).n.toNat)
theorem splitL_small (cid : Int) : ∀ (n : Nat) (l : List Int) (N : Nat), n ≤ N → l.length ≤ N → Small N (splitL cid n l)
  | 0, l, N, _, _ => by simp [splitL, Small]
  | n + 1, l, N, h1, h2 => by
    unfold splitL
    split
    · simp [Small]
    · split
      · simp [Small]
      · have h3 := splitL_small cid n (l.drop (peekP l cid).n.toNat) N (by omega) (by simp; omega)
        refine ⟨?_, ?_⟩
        · have : ∀ (k : Nat) (x : List Int), (splitL cid k x).length ≤ k := by
            intro k
            induction k with
            | zero => intro x; simp [splitL]
            | succ k ih => intro x; unfold splitL; split; simp; split; simp; have := ih (x.drop (peekP x cid).n.toNat); simp; omega
          have := this n (l.drop (peekP l cid).n.toNat)
          simp; omega
        · intro x hx
          rcases List.mem_cons.1 hx with rfl | hx
          · simp; omega
          · exact h3.2 x hx
def SplitP (l : List Int) (cid : Int) : List (List Int) := if 65536 < l.length then [] else if cid < 0 ∨ 8 < cid then [] else splitL cid 16 l
theorem SplitP_small (l : List Int) (cid : Int) (N : Nat) (h1 : 16 ≤ N) (h2 : l.length ≤ N) : Small N (SplitP l cid) := by
  unfold SplitP
  split
  · simp [Small]
  · split
    · simp [Small]
    · exact splitL_small cid 16 l N h1 h2

/-- one packet behind the others -/
theorem splitApp {H : AH} {s sp : AV} {ds : List (List Int)} {l : List Int} {bs : List Nat} (h : tBB.R true H [s] ds bs) (hnd : bs.Nodup) (hb : By l) {lo : Nat} (hsp : Ow lo H.next H sp l) (hlo : ∀ b ∈ bs, b < lo) (hlN : lo ≤ H.next) (hds : ds.length ≤ 16) :
    ∃ s' H' bs', appA Try.prog 23 23 s (.slice H.next 0 1) (H.push (.cells 22 false [sp])) = some (s', H') ∧ tBB.R true H' [s'] (ds ++ [l]) bs' ∧ bs'.Nodup ∧ (∀ b ∈ bs', b ∈ bs ∨ lo ≤ b) ∧ KoS bs H H' ∧ sp.one = true := by
  obtain ⟨b1, f1, f2, f3⟩ := ow_tB hsp hb
  have hn := h.mem
  obtain ⟨s', H', bs', g1, g2, g3, g4, g5⟩ := Ty.R.app1 (P := Try.prog) (T := 23) h f1
    (List.nodup_append.2 ⟨hnd, f2, fun x hx y hy e => by have := hlo x hx; have := (f3 y hy).1; omega⟩)
    (by simp) (by simp) (by simp [Ty.n]) (by simp; rfl) (by simp; rfl) (by simp [Ty.n]) (by omega) (by omega)
  refine ⟨s', H', bs', g1, g2, g3, fun b hb => ?_, g5, hsp.bs.one⟩
  rcases g4 b hb with h | h | h
  · exact .inl h
  · exact .inr (f3 b h).1
  · exact .inr (by omega)

/-- what the loop knows: the packets so far, what is left -/
structure SplS (H : AH) (cid : Int) (l : List Int) (d : Nat) (τ0 τ5 : AV) (h : AH) : Prop where
  ex : ∃ ds l' bs, ds.length + d = 16 ∧ Bs H τ0 l' ∧ By l' ∧ l'.length ≤ 65536 ∧ tBB.R true h [τ5] ds bs ∧ bs.Nodup ∧ (∀ b ∈ bs, H.next ≤ b) ∧ ds ++ splitL cid d l' = splitL cid 16 l
  kp : Kp H h
def SplE (H : AH) (cid : Int) (l : List Int) (v : AV) (h : AH) : Prop := ∃ bs, tBB.R true h [v] (splitL cid 16 l) bs ∧ bs.Nodup ∧ (∀ b ∈ bs, H.next ≤ b) ∧ Kp H h
theorem Split_end {H : AH} {cid : Int} {l : List Int} {d : Nat} {l' : List Int} {v : AV} {h : AH} {ds : List (List Int)} {bs : List Nat} (hK : Kp H h) (hR : tBB.R true h [v] ds bs) (hnd : bs.Nodup) (hlo : ∀ b ∈ bs, H.next ≤ b)
    (he : ds ++ splitL cid d l' = splitL cid 16 l) (h0 : splitL cid d l' = []) : SplE H cid l v h := by
  rw [h0, List.append_nil] at he
  exact ⟨bs, by rw [← he]; exact hR, hnd, hlo, hK⟩
/-- one round's steps, behind the peek -/
theorem Split_step {H : AH} {cid : Int} {l : List Int} {d : Nat} {l' : List Int} {v s' : AV} {h h1 : AH} {ds : List (List Int)} {bs : List Nat} (hK : Kp H h) (hR : tBB.R true h [v] ds bs) (hnd : bs.Nodup) (hlo : ∀ b ∈ bs, H.next ≤ b) (hs : Bs H s' l') (hb : By l') (hl : l'.length ≤ 65536)
    (hd : ds.length + (d + 1) = 16) (he : ds ++ splitL cid (d + 1) l' = splitL cid 16 l) (hne : l'.length ≠ 0) (hc : (peekP l' cid).c = 0) (hk1 : Kp h h1) (F : Nat) (m : Nat) (hm : 1 ≤ m)
    (hF : ∀ {Hb H : AH} {s : AV} {l : List Int}, Bs Hb s l → Kp Hb H → l.length ≤ 70368744177664 → ∀ m, 1 ≤ m → ∃ r H', ev Try.prog m F [s] H = some (r, H') ∧ Kp H H' ∧ Ow H.next H'.next H' r l) :
    ∃ c1 c2 r h2 v' h3, cutA Try.prog 22 s' (some none) (some (some (.int .i64 (peekP l' cid).n))) h1 = some c1 ∧ ev Try.prog m F [c1] h1 = some (r, h2) ∧ r.one = true ∧
      appA Try.prog 23 23 v (.slice h2.next 0 1) (h2.push (.cells 22 false [r])) = some (v', h3) ∧ cutA Try.prog 22 s' (some (some (.int .i64 (peekP l' cid).n))) (some none) h3 = some c2 ∧ SplS H cid l d c2 v' h3 := by
  obtain ⟨hn0, hn1⟩ := peekP_n l' cid hc
  obtain ⟨n, hn⟩ : ∃ n : Nat, (peekP l' cid).n = n := ⟨(peekP l' cid).n.toNat, by omega⟩
  obtain ⟨c1, x1, x2⟩ := cutTake hs n (by omega) hn
  obtain ⟨c2, y1, y2⟩ := cutDrop hs n (by omega)
  obtain ⟨r, h2, z1, z2, z3⟩ := hF x2 (hK.trans hk1) (by simp; omega) m hm
  have hR2 := (hR.kp hk1).kp z2
  have hm1 := (hR.kp hk1).mem
  obtain ⟨v', h3, bs', a1, a2, a3, a4, a5, a6⟩ := splitApp hR2 hnd (hb.take n) z3 hm1 z2.next (by omega)
  have hk3 : Kp H h2 := (hK.trans hk1).trans z2
  have hkk : Kp h h2 := hk1.trans z2
  refine ⟨c1, c2, r, h2, v', h3, x1 h1 (hK.trans hk1), z1, a6, a1, by rw [hn]; exact y1 h3 (a5.kp hk3 hlo), ⟨⟨ds ++ [l'.take n], l'.drop n, bs', by simp; omega, y2, hb.drop n, by simp; omega, a2, a3, fun b hb => ?_, ?_⟩, a5.kp hk3 hlo⟩⟩
  · rcases a4 b hb with h | h
    · exact hlo b h
    · have := hK.next; have := hk1.next; omega
  · rw [← he, List.append_assoc]
    congr 1
    conv => rhs; unfold splitL
    rw [if_neg hne, if_neg (by simpa using hc), hn]
    simp
/-- the specification's -/
theorem SplitS_ev {H : AH} {s : AV} {l : List Int} {cid : Int} (hs : Bs H s l) (hb : By l) (m : Nat) (hm : 42 ≤ m) :
    ∃ r H' bs, ev Try.prog m 7 [s, .int .i64 cid] H = some (r, H') ∧ Kp H H' ∧ tBB.R true H' [r] (SplitP l cid) bs ∧ bs.Nodup ∧ ∀ b ∈ bs, H.next ≤ b := by
  obtain ⟨m, rfl⟩ : ∃ k, m = k + 1 := ⟨m - 1, by omega⟩
  have hL : ∀ h, lenA Try.prog 22 s h = some (.int .i64 l.length) := hs.len
  have hE : tBB.R true (H.push (.cells 22 false [])) [.slice H.next 0 0] [] [H.next] := .inr ⟨H.next, 0, false, [], [], rfl, rfl, by simp, by simp, fun _ => ⟨rfl, rfl, by simp⟩, by simp, rfl, rfl⟩
  have hK0 : Kp H (H.push (.cells 22 false [])) := (Kp.refl H).push _
  rw [ev_eq Try.func7 ok7 m _ H (by simp [Try.f7])]
  unfold SplitP
  by_cases h1 : 65536 < l.length
  · have h1' : 65536 < (l.length : Int) := by omega
    rw [if_pos h1]
    simp [Try.f7, hL, h1', zerosA]
    exact ⟨_, _, ⟨rfl, rfl⟩, hK0, _, hE, by simp, by simp⟩
  · have h1' : ¬ (65536 < (l.length : Int)) := by omega
    rw [if_neg h1]
    by_cases h2 : cid < 0
    · rw [if_pos (.inl h2)]
      simp [Try.f7, hL, h1', h2, zerosA]
      exact ⟨_, _, ⟨rfl, rfl⟩, hK0, _, hE, by simp, by simp⟩
    · by_cases h3 : 8 < cid
      · rw [if_pos (.inr h3)]
        simp [Try.f7, hL, h1', h2, h3, zerosA]
        exact ⟨_, _, ⟨rfl, rfl⟩, hK0, _, hE, by simp, by simp⟩
      · rw [if_neg (by omega)]
        simp [Try.f7, hL, h1', h2, h3, zerosA]
        generalize hLo : evLoop _ _ _ _ _ _ = R
        obtain ⟨e, τ', H', rfl, g2⟩ := loop_at hLo (loop_rule (d := 16)
          (fun d τ h => SplS H cid l d (τ 0) (τ 5) h ∧ τ 1 = .int .i64 cid)
          (fun e τ h => (e = .exit 0 ∧ SplE H cid l (τ 5) h) ∨ (e = .ret ∧ SplE H cid l (τ 4) h))
          (by
            rintro d τ h ⟨⟨⟨ds, l', bs, hd, hs', hb', hl', hR, hnd, hlo, he⟩, hK⟩, t1⟩
            generalize t0 : τ 0 = s' at *
            generalize t5 : τ 5 = v at *
            have hl5 := Ty.R.lenA hR (P := Try.prog) (T := 23) (by simp)
            have hl0 := hs'.len
            by_cases hd0 : d = 0
            · subst hd0
              have hds : ((ds.length : Nat) : Int) = 16 := by omega
              rw [hds] at hl5
              rewrite [lp7_60]
              simp [Try.f7, t0, t1, t5, hl5]
              exact Split_end hK hR hnd hlo he rfl
            · obtain ⟨d, rfl⟩ : ∃ q, d = q + 1 := ⟨d - 1, by omega⟩
              have hds : ((ds.length : Nat) : Int) < 16 := by omega
              by_cases hz : l'.length = 0
              · have hz' : (l'.length : Int) = 0 := by omega
                rw [hz'] at hl0
                rewrite [lp7_60]
                simp [Try.f7, t0, t1, t5, hl5, hl0, hds]
                exact Split_end hK hR hnd hlo he (by unfold splitL; rw [if_pos hz])
              · have hz' : 0 < l'.length := by omega
                obtain ⟨q1, q2, q3, h1, p1, p2, p3, p4, p5⟩ := peekS_all (cid := cid) (hs'.kp hK) hb' hl' (by omega) (by omega) m (by omega)
                simp only [hdr] at p1
                by_cases hc : (peekP l' cid).c = 0
                · have hk1 : Kp h (h1.push (.cells 32 false [.int .i64 (peekP l' cid).f, .int .i64 (peekP l' cid).v, q1, q2, q3, .int .i64 0, .int .i64 0, .int .i64 0])) := p2.push _
                  obtain ⟨c1, c2, r, h2, v', h3, w1, w2, w3, w4, w5, w6⟩ := Split_step hK hR hnd hlo hs' hb' hl' hd he hz hc hk1 39 m (by omega) (fun a b c => l03Copy_ev a b c)
                  rewrite [lp7_60]
                  simp [Try.f7, t0, t1, t5, hl5, hl0, hds, hz', p1, hc, ldVar, stVar, p3.bs.one, p4.bs.one, p5.bs.one, zerosA, w1, w2, w3, cells_one w3, spl, w4, w5]
                  exact ⟨d, by omega, w6⟩
                · rewrite [lp7_60]
                  simp [Try.f7, t0, t1, t5, hl5, hl0, hds, hz', p1, hc, ldVar, stVar, p3.bs.one, p4.bs.one, p5.bs.one]
                  exact Split_end ((hK.trans p2).push _) ((hR.kp p2).kp ((Kp.refl _).push _)) hnd hlo he (by unfold splitL; rw [if_neg hz, if_pos hc]))
          ⟨⟨⟨[], l, [H.next], rfl, by simpa using hs, hb, by omega, by simpa using hE, by simp, by simp, rfl⟩, hK0⟩, by simp⟩ (by omega))
        rcases g2 with ⟨rfl, bs, g3, g4, g5, g6⟩ | ⟨rfl, bs, g3, g4, g5, g6⟩
        · simp
          exact ⟨_, _, ⟨rfl, rfl⟩, g6, bs, g3, g4, g5⟩
        · simp
          exact ⟨_, _, ⟨rfl, rfl⟩, g6, bs, g3, g4, g5⟩
end Go.Ev

/- The program's SplitDatagram. -/
namespace Go.Ev
open Go Go.Proofs
set_option linter.unusedSimpArgs false
set_option linter.unusedVariables false
theorem PeekP_in {l : List Int} {cid : Int} (h1 : l.length ≤ 65536) (h2 : 0 ≤ cid) (h3 : cid ≤ 8) : PeekP l cid = peekP l cid := by
  unfold PeekP; rw [if_neg (by omega), if_neg (by omega)]
theorem SplitI_ev {H : AH} {s : AV} {l : List Int} {cid : Int} (hs : Bs H s l) (hb : By l) (m : Nat) (hm : 42 ≤ m) :
    ∃ r H' bs, ev Try.prog m 9 [s, .int .i64 cid] H = some (r, H') ∧ Kp H H' ∧ tBB.R true H' [r] (SplitP l cid) bs ∧ bs.Nodup ∧ ∀ b ∈ bs, H.next ≤ b := by
  obtain ⟨m, rfl⟩ : ∃ k, m = k + 1 := ⟨m - 1, by omega⟩
  have hE : tBB.R true (H.push (.cells 22 false [])) [.slice H.next 0 0] [] [H.next] := .inr ⟨H.next, 0, false, [], [], rfl, rfl, by simp, by simp, fun _ => ⟨rfl, rfl, by simp⟩, by simp, rfl, rfl⟩
  have hK0 : Kp H (H.push (.cells 22 false [])) := (Kp.refl H).push _
  have c1 := tooLong_ev hs (H.push (.cells 22 false [])) m (by omega)
  rw [ev_eq Try.func9 ok9 m _ H (by simp [Try.f9])]
  unfold SplitP
  by_cases h1 : 65536 < l.length
  · have h1' : 65536 < (l.length : Int) := by omega
    simp [h1'] at c1
    rw [if_pos h1]
    simp [Try.f9, c1, zerosA]
    exact ⟨_, _, ⟨rfl, rfl⟩, hK0, _, hE, by simp, by simp⟩
  · have h1' : ¬ (65536 < (l.length : Int)) := by omega
    simp [h1'] at c1
    rw [if_neg h1]
    by_cases h2 : cid < 0
    · rw [if_pos (.inl h2)]
      simp [Try.f9, c1, h2, zerosA]
      exact ⟨_, _, ⟨rfl, rfl⟩, hK0, _, hE, by simp, by simp⟩
    · by_cases h3 : 8 < cid
      · rw [if_pos (.inr h3)]
        simp [Try.f9, c1, h2, h3, zerosA]
        exact ⟨_, _, ⟨rfl, rfl⟩, hK0, _, hE, by simp, by simp⟩
      · rw [if_neg (by omega)]
        simp [Try.f9, c1, h2, h3, zerosA]
        generalize hLo : evLoop _ _ _ _ _ _ = R
        obtain ⟨e, τ', H', rfl, g2⟩ := loop_at hLo (loop_rule (d := 16)
          (fun d τ h => SplS H cid l d (τ 0) (τ 5) h ∧ τ 1 = .int .i64 cid)
          (fun e τ h => e = .exit 0 ∧ SplE H cid l (τ 5) h)
          (by
            rintro d τ h ⟨⟨⟨ds, l', bs, hd, hs', hb', hl', hR, hnd, hlo, he⟩, hK⟩, t1⟩
            generalize t0 : τ 0 = s' at *
            generalize t5 : τ 5 = v at *
            have hl5 := Ty.R.lenA hR (P := Try.prog) (T := 23) (by simp)
            have hl0 := hs'.len
            by_cases hz : l'.length = 0
            · have hz' : (l'.length : Int) = 0 := by omega
              rw [hz'] at hl0
              rewrite [lp9_60]
              simp [Try.f9, t0, t1, t5, hl0]
              exact Split_end hK hR hnd hlo he (by cases d <;> simp [splitL, hz])
            · have hz' : 0 < l'.length := by omega
              by_cases hd0 : d = 0
              · subst hd0
                have hds : ((ds.length : Nat) : Int) = 16 := by omega
                rw [hds] at hl5
                rewrite [lp9_60]
                simp [Try.f9, t0, t1, t5, hl0, hz', hl5]
                exact Split_end hK hR hnd hlo he rfl
              · obtain ⟨d, rfl⟩ : ∃ q, d = q + 1 := ⟨d - 1, by omega⟩
                have hds : ((ds.length : Nat) : Int) < 16 := by omega
                obtain ⟨q1, q2, q3, h1, a, b, p1, p2, _, _, _, p3, p4, p5⟩ := PeekI_ev (cid := cid) (hs'.kp hK) hb' m (by omega)
                rw [PeekP_in hl' (by omega) (by omega)] at p1 p3 p4 p5
                simp only [hdr] at p1
                by_cases hc : (peekP l' cid).c = 0
                · have hk1 : Kp h (h1.push (.cells 32 false [.int .i64 (peekP l' cid).f, .int .i64 (peekP l' cid).v, q1, q2, q3, .int .i64 0, .int .i64 0, .int .i64 0])) := p2.push _
                  obtain ⟨c1, c2, r, h2, v', h3, w1, w2, w3, w4, w5, w6⟩ := Split_step hK hR hnd hlo hs' hb' hl' hd he hz hc hk1 41 m (by omega) (fun a b c => copied_ev a b c)
                  rewrite [lp9_60]
                  simp [Try.f9, t0, t1, t5, hl5, hl0, hds, hz', p1, hc, ldVar, stVar, p3.bs.one, p4.bs.one, p5.bs.one, zerosA, w1, w2, w3, cells_one w3, spl, w4, w5]
                  exact ⟨d, by omega, w6⟩
                · rewrite [lp9_60]
                  simp [Try.f9, t0, t1, t5, hl5, hl0, hds, hz', p1, hc, ldVar, stVar, p3.bs.one, p4.bs.one, p5.bs.one]
                  exact Split_end ((hK.trans p2).push _) ((hR.kp p2).kp ((Kp.refl _).push _)) hnd hlo he (by unfold splitL; rw [if_neg hz, if_pos hc]))
          ⟨⟨⟨[], l, [H.next], rfl, by simpa using hs, hb, by omega, by simpa using hE, by simp, by simp, rfl⟩, hK0⟩, by simp⟩ (by omega))
        obtain ⟨rfl, bs, g3, g4, g5, g6⟩ := g2
        simp
        exact ⟨_, _, ⟨rfl, rfl⟩, g6, bs, g3, g4, g5⟩
end Go.Ev

/- The law FnExactSplitDatagram by the evaluator. -/
namespace Go.Ev
open Go Go.Proofs
set_option linter.unusedSimpArgs false
set_option linter.unusedVariables false

/-- toByteS, by kinds -/
theorem toB {s : AV} {l : List Int} {Hb H : AH} (hs : Bs Hb s l) (hb : By l) (hK : Kp Hb H) (hl : l.length ≤ 1048576) (m : Nat) (hm : l.length + 2 ≤ m) :
    ∃ r H' bs, ev Try.prog m 8 [s] H = some (r, H') ∧ Kp H H' ∧ tB.R true H' [r] l bs ∧ bs.Nodup ∧ ∀ b ∈ bs, H.next ≤ b := by
  obtain ⟨r, H', h1, h2, h3⟩ := toByteS_evm hs hK hl m hm
  obtain ⟨bs, g1, g2, g3⟩ := ow_tB h3 hb
  exact ⟨r, H', bs, h1, h2, g1, g2, fun b hb => (g3 b hb).1⟩
theorem law3 {H : AH} {s : AV} {l : List Int} {cid : Int} (hs : Bs H s l) (hb : By l) (m : Nat) (hm : 2000000 ≤ m) : ∃ H', ev Try.prog m 3 [s, .int .i64 cid] H = some (.bool true, H') := by
  obtain ⟨m, rfl⟩ : ∃ k, m = k + 1 := ⟨m - 1, by omega⟩
  have hL : ∀ h, lenA Try.prog 22 s h = some (.int .i64 l.length) := hs.len
  rw [ev_eq Try.func3 ok3 m _ H (by simp [Try.f3])]
  by_cases h1 : 1048576 < l.length
  · have h1' : 1048576 < (l.length : Int) := by omega
    simp [Try.f3, hL, h1']
  · have h1' : ¬ (1048576 < (l.length : Int)) := by omega
    have hS := SplitP_small l cid 1048576 (by omega) (by omega)
    obtain ⟨x, H1, bx, a1, a2, a3, a4, a5⟩ := toB hs hb (Kp.refl H) (by omega) m (by omega)
    obtain ⟨w, H2, bw, b1, b2, b3, b4, b5⟩ := SplitS_ev (cid := cid) (tB_bs a3).1 hb m (by omega)
    generalize hD : SplitP l cid = D at *
    have K2 := a2.trans b2
    obtain ⟨x0, H3, b0, c1, c2, c3, c4, c5⟩ := toB hs hb K2 (by omega) m (by omega)
    obtain ⟨g, H4, bg, d1, d2, d3, d4, d5⟩ := SplitI_ev (cid := cid) (tB_bs c3).1 hb m (by omega)
    rw [hD] at d3
    have K4 := (K2.trans c2).trans d2
    have e1 := eqBB d3 (b3.kp (c2.trans d2)) hS (Nat.le_refl _) m (by omega)
    simp only [decide_true] at e1
    obtain ⟨x', H5, bx', f1, f2, f3, f4, f5⟩ := toB hs hb K4 (by omega) m (by omega)
    have K5 := K4.trans f2
    have e2 := eqB (c3.kp (d2.trans f2)) f3 (by omega) m (by omega)
    simp only [decide_true] at e2
    obtain ⟨H6, g1, g2, g3⟩ := markB (c3.kp (d2.trans f2)) (by omega) 1 (by omega) (by omega) m (by omega)
    have w6 := (b3.kp ((c2.trans d2).trans f2)).koL g2 fun b hb hx => by have := b3.mem b hb; have := c5 b hx; omega
    have r6 := (d3.kp f2).koL g2 fun b hb hx => by have := c3.mem b hx; have := d5 b hb; omega
    have e3 := eqBB r6 w6 hS (Nat.le_refl _) m (by omega)
    simp only [decide_true] at e3
    have K6 : Kp H H6 := g2.kp K5 fun b hb => by have := c5 b hb; have := K2.next; omega
    obtain ⟨H7, i1, i2, i3⟩ := markBB r6 d4 hS (Nat.le_refl _) 1 (by omega) (by omega) m (by omega)
    have K7 : Kp H H7 := i2.kp K6 fun b hb => by have := d5 b hb; have := (K2.trans c2).next; omega
    have e4 := heldBB i3 hS (Nat.le_refl _) (by omega) (by omega) m (by omega)
    have w7 := w6.koL i2 fun b hb hx => by have := b3.mem b hb; have := d5 b hx; have := c2.next; omega
    obtain ⟨x'', H8, bx'', j1, j2, j3, j4, j5⟩ := toB hs hb K7 (by omega) m (by omega)
    obtain ⟨h0, H9, bh, k1, k2, k3, k4, k5⟩ := SplitI_ev (cid := cid) (tB_bs j3).1 hb m (by omega)
    rw [hD] at k3
    have e5 := eqBB k3 (w7.kp (j2.trans k2)) hS (Nat.le_refl _) m (by omega)
    simp only [decide_true] at e5
    have e6 := heldBB (i3.kp (j2.trans k2)) hS (Nat.le_refl _) (by omega) (by omega) m (by omega)
    have t1 : ¬ (1 + (tB.cnt false l : Nat) < (0 : Int)) := by omega
    have t2 : ¬ (1 + (tBB.cnt false D : Nat) < (0 : Int)) := by omega
    exact ⟨H9, by simp [Try.f3, hL, h1', a1, b1, c1, d1, e1, f1, e2, g1, e3, i1, e4, j1, k1, e5, e6, t1, t2, evHist, ObsOk, ObOk]⟩
end Go.Ev

/- The stirrer: both rotations, both stirs. -/
namespace Go.Ev
open Go Go.Proofs
set_option linter.unusedSimpArgs false
set_option linter.unusedVariables false

def rotU (x : Int) (k : Nat) : Int := bits .or .u32 (IntKind.u32.wrap (x * 2 ^ k)) (x.fdiv (2 ^ (32 - k)))
theorem rotI_ev {x K : Int} {k : Nat} (hk : (k = 7 ∧ K = 7) ∨ (k = 13 ∧ K = 13) ∨ (k = 17 ∧ K = 17)) (H : AH) (m : Nat) (hm : 1 ≤ m) : ev Try.prog m 82 [.int .u32 x, .int .i64 K] H = some (.int .u32 (rotU x k), H) := by
  obtain ⟨m, rfl⟩ : ∃ k, m = k + 1 := ⟨m - 1, by omega⟩
  rw [ev_eq Try.func82 ok82 m _ H (by simp [Try.f82])]
  have e1 : bits .and .u64 7 31 = 7 := by decide
  have e2 : bits .and .u64 13 31 = 13 := by decide
  have e3 : bits .and .u64 17 31 = 17 := by decide
  have w1 : IntKind.u64.wrap 7 = 7 := by decide
  have w2 : IntKind.u64.wrap 13 = 13 := by decide
  have w3 : IntKind.u64.wrap 17 = 17 := by decide
  have w4 : IntKind.u64.wrap 25 = 25 := by decide
  have w5 : IntKind.u64.wrap 19 = 19 := by decide
  have w6 : IntKind.u64.wrap 15 = 15 := by decide
  rcases hk with ⟨rfl, rfl⟩ | ⟨rfl, rfl⟩ | ⟨rfl, rfl⟩ <;> simp [Try.f82, convA, e1, e2, e3, w1, w2, w3, w4, w5, w6, rotU, IntKind.bits]
theorem rotS_ev {x K : Int} {k : Nat} (hk : (k = 7 ∧ K = 7) ∨ (k = 13 ∧ K = 13) ∨ (k = 17 ∧ K = 17)) (H : AH) (m : Nat) (hm : 1 ≤ m) : ev Try.prog m 83 [.int .u32 x, .int .i64 K] H = some (.int .u32 (rotU x k), H) := by
  obtain ⟨m, rfl⟩ : ∃ k, m = k + 1 := ⟨m - 1, by omega⟩
  rw [ev_eq Try.func83 ok83 m _ H (by simp [Try.f83])]
  have w1 : IntKind.u64.wrap 7 = 7 := by decide
  have w2 : IntKind.u64.wrap 13 = 13 := by decide
  have w3 : IntKind.u64.wrap 17 = 17 := by decide
  have w4 : IntKind.u64.wrap 25 = 25 := by decide
  have w5 : IntKind.u64.wrap 19 = 19 := by decide
  have w6 : IntKind.u64.wrap 15 = 15 := by decide
  have v4 : IntKind.i64.wrap 25 = 25 := by decide
  have v5 : IntKind.i64.wrap 19 = 19 := by decide
  have v6 : IntKind.i64.wrap 15 = 15 := by decide
  rcases hk with ⟨rfl, rfl⟩ | ⟨rfl, rfl⟩ | ⟨rfl, rfl⟩ <;> simp [Try.f83, convA, w1, w2, w3, w4, w5, w6, v4, v5, v6, rotU, IntKind.bits]

/-- the four numbers -/
structure Sti where
  a : Int
  b : Int
  c : Int
  d : Int
def Sti.cells (s : Sti) : List AV := [.int .u32 s.a, .int .u32 s.b, .int .u32 s.c, .int .u32 s.d]
def stA (s : Sti) (x : Int) : Int := IntKind.u32.wrap (bits .xor .u32 s.a (IntKind.u32.wrap x) * 16777619)
def stB (s : Sti) (x : Int) : Int := rotU (IntKind.u32.wrap (s.b + stA s x)) 7
def stC (s : Sti) (x : Int) : Int := rotU (bits .xor .u32 s.c (stB s x)) 13
def stD (s : Sti) (x : Int) : Int := rotU (IntKind.u32.wrap (s.d + stC s x)) 17
def st1 (s : Sti) (x : Int) : Sti := ⟨bits .xor .u32 (stA s x) (stD s x), stB s x, stC s x, stD s x⟩
def stL (s : Sti) (l : List Int) : Sti := l.foldl st1 s
theorem stL_take {s : Sti} {l : List Int} {k : Nat} (hk : k < l.length) : stL s (l.take (k + 1)) = st1 (stL s (l.take k)) l[k] := by
  rw [List.take_add_one, List.getElem?_eq_getElem hk]; simp only [stL, Option.toList, List.foldl_append, List.foldl_cons, List.foldl_nil]

theorem stL_nil (s : Sti) : stL s [] = s := rfl
theorem stL_app (s : Sti) (l r : List Int) : stL s (l ++ r) = stL (stL s l) r := by simp [stL]
theorem st1_L (s : Sti) (x : Int) : stL s [x] = st1 s x := rfl
attribute [irreducible] rotU stL st1
theorem Bs.at2 {H : AH} {s : AV} {l : List Int} (h : Bs H s l) {k : Nat} (hk : k < l.length) : ∃ b o ro xs, (b < H.next ∧ H.get b = some (.cells 5 ro xs)) ∧ idxA Try.prog 22 s (.int .i64 k) = some (.ptr b (o + k)) ∧ xs[o + k]? = some (.int .u8 l[k]) ∧ ∃ n, s = .slice b o n := by
  rcases h.lie with ⟨rfl, h0⟩ | ⟨b, o, ro, xs, rfl, hn, hb, hl, hx⟩
  · have : l = [] := by simpa [u8L] using h0
    subst this; simp at hk
  · rw [u8L_len] at hl hx
    refine ⟨b, o, ro, xs, ⟨hn, hb⟩, ?_, ?_, _, rfl⟩
    · simp [idxA, u8L_len, hk]
    · have : (u8L l)[k]? = some (.int .u8 l[k]) := by simp [u8L, hk]
      rw [← this, ← hx, List.getElem?_take, if_pos hk, List.getElem?_drop]
def StirInv (l : List Int) (s : AV) (q : Nat) (H : AH) (st : Sti) (d : Nat) (τ : Tm) (h : AH) : Prop :=
  ∃ k : Nat, k + d = l.length ∧ τ 0 = .ptr q 0 ∧ τ 6 = s ∧ τ 7 = .int .i64 l.length ∧ τ 8 = .int .i64 k ∧ ∃ S, S = stL st (l.take k) ∧ h = H.set q (.cells 92 false S.cells)
theorem stirI_ev {Hb H : AH} {q : Nat} {s : AV} {l : List Int} {st : Sti} (hs : Bs Hb s l) (hK : ∀ b, b < Hb.next → b ≠ q → H.get b = Hb.get b) (hsq : ∀ b o n, s = .slice b o n → b ≠ q) (hq : H.get q = some (.cells 92 false st.cells)) (hl : l.length ≤ 1048576) (m : Nat) (hm : l.length + 4 ≤ m) :
    ev Try.prog m 77 [.ptr q 0, s] H = some (U, H.set q (.cells 92 false (stL st l).cells)) := by
  obtain ⟨m, rfl⟩ : ∃ k, m = k + 1 := ⟨m - 1, by omega⟩
  rw [ev_eq Try.func77 ok77 m _ H (by simp [Try.f77])]
  simp [Try.f77, hs.len]
  generalize hLo : evLoop _ _ _ _ _ _ = R
  obtain ⟨e, τ', H', rfl, rfl, rfl⟩ := loop_at hLo (loop_rule (d := l.length)
    (StirInv l s q H st)
    (fun e τ h => e = .exit 0 ∧ h = H.set q (.cells 92 false (stL st l).cells))
    (by
      rintro d τ h ⟨k, hk, t0, t6, t7, t8, S, hS, rfl⟩
      by_cases hd : d = 0
      · subst hd
        have : k = l.length := by omega
        subst this
        rw [List.take_length] at hS
        subst hS
        rewrite [lp77_6]
        simp [Try.f77, t7, t8]
      · have hlt : k < l.length := by omega
        obtain ⟨b, o, ro, xs, a1, a2, a3, a4⟩ := hs.at2 hlt
        have hbq : b ≠ q := by
          obtain ⟨n, hn⟩ := a4
          exact hsq _ _ _ hn
        have hgb : H.get b = some (.cells 5 ro xs) := by rw [hK b a1.1 hbq]; exact a1.2
        have hN : st1 S l[k] = stL st (l.take (k + 1)) := by rw [stL_take hlt, hS]
        have cv1 : ∀ h, convA Try.prog 5 90 (.int .u8 l[k]) h = some (.int .u32 (IntKind.u32.wrap l[k]), h) := fun h => conv_int (ds := .int .u8) (by simp) (by simp)
        obtain ⟨X, hX⟩ : ∃ X, bits .xor .u32 S.a (IntKind.u32.wrap l[k]) = X := ⟨_, rfl⟩
        obtain ⟨A, hA⟩ : ∃ A, IntKind.u32.wrap (X * 16777619) = A := ⟨_, rfl⟩
        obtain ⟨B, hB⟩ : ∃ B, rotU (IntKind.u32.wrap (S.b + A)) 7 = B := ⟨_, rfl⟩
        obtain ⟨C, hC⟩ : ∃ C, rotU (bits .xor .u32 S.c B) 13 = C := ⟨_, rfl⟩
        obtain ⟨D, hD⟩ : ∃ D, rotU (IntKind.u32.wrap (S.d + C)) 17 = D := ⟨_, rfl⟩
        obtain ⟨E, hE⟩ : ∃ E, bits .xor .u32 A D = E := ⟨_, rfl⟩
        have hS1 : st1 S l[k] = ⟨E, B, C, D⟩ := by rw [st1]; simp only [stA, stB, stC, stD, hX, hA, hB, hC, hD, hE]
        rw [hS1] at hN
        have r1 := fun h => rotI_ev (x := IntKind.u32.wrap (S.b + A)) (K := 7) (k := 7) (by simp) h m (by omega)
        have r2 := fun h => rotI_ev (x := bits .xor .u32 S.c B) (K := 13) (k := 13) (by simp) h m (by omega)
        have r3 := fun h => rotI_ev (x := IntKind.u32.wrap (S.d + C)) (K := 17) (k := 17) (by simp) h m (by omega)
        simp only [hB, hC, hD] at r1 r2 r3
        obtain ⟨sa, sb, sc, sd⟩ := S
        simp only [Sti.cells] at *
        rewrite [lp77_6]
        simp [Try.f77, t0, t6, t7, t8, hlt, a2, a3, hgb, hbq, ldVar, stVar, cv1, hX, hA, hE, r1, r2, r3, evHist, ObsOk, ObOk, wrap_i64 (n := (k : Int) + 1) (by omega) (by omega)]
        exact ⟨d - 1, by omega, k + 1, by omega, by simp [t0], by simp [t6], by simp [t7], by simp, _, hN, rfl⟩)
    ⟨0, by simp, by simp, by simp, by simp, by simp, ⟨st, by rw [List.take_zero, stL_nil], (AH.set_same H q _ hq).symm⟩⟩ (by omega))
  simp [U]
end Go.Ev

/- The specification's stir. -/
namespace Go.Ev
open Go Go.Proofs
set_option linter.unusedSimpArgs false
set_option linter.unusedVariables false

def StirInvS (l : List Int) (s : AV) (H : AH) (st : Sti) (d : Nat) (τ : Tm) (h : AH) : Prop :=
  ∃ k : Nat, k + d = l.length ∧ τ 1 = s ∧ τ 2 = .ptr H.next 0 ∧ τ 4 = .ptr (H.next + 1) 0 ∧ τ 5 = .int .i64 k ∧ Kp H h ∧ h.next = H.next + 2 ∧ h.get (H.next + 1) = some (.cells 96 false [.int .u32 0, .int .u32 0, .int .u32 0, .int .u32 0]) ∧
    ∃ S, S = stL st (l.take k) ∧ h.get H.next = some (.cells 96 false S.cells)
def StirEndS (l : List Int) (H : AH) (st : Sti) (τ : Tm) (h : AH) : Prop :=
  τ 2 = .ptr H.next 0 ∧ τ 4 = .ptr (H.next + 1) 0 ∧ Kp H h ∧ h.next = H.next + 2 ∧ h.get (H.next + 1) = some (.cells 96 false [.int .u32 0, .int .u32 0, .int .u32 0, .int .u32 0]) ∧ h.get H.next = some (.cells 96 false (stL st l).cells)
theorem stirS_ev {H : AH} {s : AV} {l : List Int} {st : Sti} (hs : Bs H s l) (hl : l.length ≤ 1048576) (m : Nat) (hm : l.length + 4 ≤ m) :
    ∃ H', ev Try.prog m 78 [.agg st.cells, s] H = some (.agg (stL st l).cells, H') ∧ Kp H H' := by
  obtain ⟨m, rfl⟩ : ∃ k, m = k + 1 := ⟨m - 1, by omega⟩
  rw [ev_eq Try.func78 ok78 m _ H (by simp [Try.f78])]
  have hc : ∀ S : Sti, S.cells = [.int .u32 S.a, .int .u32 S.b, .int .u32 S.c, .int .u32 S.d] := fun _ => rfl
  simp [Try.f78, hc st]
  generalize hLo : evLoop _ _ _ _ _ _ = R
  obtain ⟨e, τ', H', rfl, rfl, g1, g2, g3, g4, g5, g6⟩ := loop_at hLo (loop_rule (d := l.length) (StirInvS l s H st)
    (fun e τ h => e = .exit 0 ∧ StirEndS l H st τ h)
    (by
      rintro d τ h ⟨k, hk, t1, t2, t4, t5, hK, hn, hz, S, hS, hg⟩
      have hs' := hs.kp hK
      by_cases hd : d = 0
      · subst hd
        have : k = l.length := by omega
        subst this
        rw [List.take_length] at hS
        subst hS
        rewrite [lp78_26]
        simp [Try.f78, t1, t5, hs'.len]
        exact ⟨t2, t4, hK, hn, hz, hg⟩
      · have hlt : k < l.length := by omega
        obtain ⟨b, o, ro, xs, a1, a2, a3, a4⟩ := hs.at2 hlt
        have hbq : b ≠ H.next := by omega
        have hgb : h.get b = some (.cells 5 ro xs) := by rw [hK.get b a1.1]; exact a1.2
        have hN : st1 S l[k] = stL st (l.take (k + 1)) := by rw [stL_take hlt, hS]
        have cv1 : ∀ h, convA Try.prog 5 90 (.int .u8 l[k]) h = some (.int .u32 (IntKind.u32.wrap l[k]), h) := fun h => conv_int (ds := .int .u8) (by simp) (by simp)
        obtain ⟨X, hX⟩ : ∃ X, bits .xor .u32 S.a (IntKind.u32.wrap l[k]) = X := ⟨_, rfl⟩
        obtain ⟨A, hA⟩ : ∃ A, IntKind.u32.wrap (X * 16777619) = A := ⟨_, rfl⟩
        obtain ⟨B, hB⟩ : ∃ B, rotU (IntKind.u32.wrap (S.b + A)) 7 = B := ⟨_, rfl⟩
        obtain ⟨C, hC⟩ : ∃ C, rotU (bits .xor .u32 S.c B) 13 = C := ⟨_, rfl⟩
        obtain ⟨D, hD⟩ : ∃ D, rotU (IntKind.u32.wrap (S.d + C)) 17 = D := ⟨_, rfl⟩
        obtain ⟨E, hE⟩ : ∃ E, bits .xor .u32 A D = E := ⟨_, rfl⟩
        have hS1 : st1 S l[k] = ⟨E, B, C, D⟩ := by rw [st1]; simp only [stA, stB, stC, stD, hX, hA, hB, hC, hD, hE]
        rw [hS1] at hN
        have r1 := fun h => rotS_ev (x := IntKind.u32.wrap (S.b + A)) (K := 7) (k := 7) (by simp) h m (by omega)
        have r2 := fun h => rotS_ev (x := bits .xor .u32 S.c B) (K := 13) (k := 13) (by simp) h m (by omega)
        have r3 := fun h => rotS_ev (x := IntKind.u32.wrap (S.d + C)) (K := 17) (k := 17) (by simp) h m (by omega)
        simp only [hB, hC, hD] at r1 r2 r3
        obtain ⟨sa, sb, sc, sd⟩ := S
        simp only [hc] at hg
        rewrite [lp78_26]
        simp [Try.f78, t1, t2, t5, hs'.len, hlt, a2, a3, hgb, hbq, hg, ldVar, stVar, cv1, hX, hA, hE, r1, r2, r3, wrap_i64 (n := (k : Int) + 1) (by omega) (by omega)]
        exact ⟨d - 1, by omega, k + 1, by omega, by simp [t1], by simp [t2], by simp [t4], by simp, hK.set (Nat.le_refl _) _, hn, by simp [hz], _, hN, by simp [hc]⟩)
    ⟨0, by simp, by simp, by simp, by simp, by simp, ((Kp.refl H).push _).push _, by simp, by simp, st, by rw [List.take_zero, stL_nil], by simp [hc]⟩ (by omega))
  rw [hc] at g6
  simp [ldVar, stVar, g1, g2, g5, g6, hc]
  exact g3.set (by omega) _
end Go.Ev

/- Digits: fixed and l01Digits. -/
namespace Go.Ev
open Go Go.Proofs
set_option linter.unusedSimpArgs false
set_option linter.unusedVariables false

/-- the n digits to the base 256, the greatest first -/
def dig : Int → Nat → List Int
  | _, 0 => []
  | v, n + 1 => dig (v / 256) n ++ [v % 256]
theorem dig_len : ∀ (n : Nat) (v : Int), (dig v n).length = n
  | 0, v => rfl
  | n + 1, v => by simp [dig, dig_len n]
theorem dig_head : ∀ (n : Nat) (v : Int), dig v (n + 1) = (v / 256 ^ n % 256) :: dig v n
  | 0, v => by simp [dig]
  | n + 1, v => by
    have h := dig_head n (v / 256)
    rw [dig, h, dig, List.cons_append]
    congr 2
    rw [Int.ediv_ediv_of_nonneg (by omega : (0 : Int) ≤ 256), Int.pow_succ, Int.mul_comm]
theorem dig_by : ∀ (n : Nat) (v : Int), By (dig v n)
  | 0, v => by simp [dig, By]
  | n + 1, v => by
    intro x hx
    rw [dig] at hx
    rcases List.mem_append.1 hx with hx | hx
    · exact dig_by n _ x hx
    · simp at hx; subst hx; omega
theorem shr_dig {v : Int} (h0 : 0 ≤ v) (d : Nat) : IntKind.u8.wrap (v.fdiv (2 ^ (8 * d))) = v / 256 ^ d % 256 := by
  rw [wrap_u8]
  have : (2 : Int) ^ (8 * d) = 256 ^ d := by rw [Int.pow_mul]; rfl
  rw [this, Int.fdiv_eq_ediv_of_nonneg _ (by have : (0:Int) < 256 ^ d := Int.pow_pos (by omega); omega)]
def FixInv (v : Int) (l : List Int) (n : Nat) (H : AH) (bs : List Nat) (d : Nat) (τ : Tm) (h : AH) : Prop :=
  ∃ o b', τ 1 = .int .i64 v ∧ τ 7 = .int .i64 ((d : Int) - 1) ∧ d ≤ n ∧ o ++ dig v d = l ++ dig v n ∧ tB.R true h [τ 0] o b' ∧ b'.Nodup ∧ (∀ b ∈ b', b ∈ bs ∨ H.next ≤ b) ∧ KoS bs H h
theorem fixed58_ev {H : AH} {s : AV} {l : List Int} {bs : List Nat} (hs : tB.R true H [s] l bs) (hnd : bs.Nodup) {v : Int} (h0 : 0 ≤ v) (h1 : v ≤ 9223372036854775807) {n : Nat} (hn : n ≤ 8) (hl : l.length ≤ 1048576) (m : Nat) (hm : 11 ≤ m) :
    ∃ r H' b', ev Try.prog m 58 [s, .int .i64 v, .int .i64 n] H = some (r, H') ∧ tB.R true H' [r] (l ++ dig v n) b' ∧ b'.Nodup ∧ (∀ b ∈ b', b ∈ bs ∨ H.next ≤ b) ∧ KoS bs H H' := by
  obtain ⟨m, rfl⟩ : ∃ k, m = k + 1 := ⟨m - 1, by omega⟩
  rw [ev_eq Try.func58 ok58 m _ H (by simp [Try.f58])]
  simp [Try.f58, wrap_i64 (n := (n : Int) - 1) (by omega) (by omega)]
  generalize hLo : evLoop _ _ _ _ _ _ = R
  obtain ⟨e, τ', H', rfl, rfl, b', g1, g2, g3, g4⟩ := loop_at hLo (loop_rule (d := n) (FixInv v l n H bs)
    (fun e τ h => e = .exit 0 ∧ ∃ b', tB.R true h [τ 0] (l ++ dig v n) b' ∧ b'.Nodup ∧ (∀ b ∈ b', b ∈ bs ∨ H.next ≤ b) ∧ KoS bs H h)
    (by
      rintro d τ h ⟨o, b', t1, t7, hd, ho, hR, hb1, hb2, hK⟩
      generalize t0 : τ 0 = x at *
      by_cases hz : d = 0
      · subst hz
        have : ((0 : Nat) : Int) - 1 = -1 := rfl
        rw [this] at t7
        rewrite [lp58_26]
        simp [Try.f58, t0, t1, t7]
        exact ⟨b', by rw [← ho]; simpa [dig] using hR, hb1, hb2, hK⟩
      · obtain ⟨d, rfl⟩ : ∃ q, d = q + 1 := ⟨d - 1, by omega⟩
        have e1 : ((d + 1 : Nat) : Int) - 1 = d := by omega
        rw [e1] at t7
        have cv1 : ∀ h, convA Try.prog 3 88 (.int .i64 v) h = some (.int .u64 v, h) := fun h => by
          rw [conv_int (k := .u64) (ds := .int .i64) (by simp) (by simp)]
          rw [IntKind.wrap_u64]; congr 3; omega
        have hmin : min (8 * (d : Int)).toNat 64 = 8 * d := by omega
        have cv2 : ∀ h, convA Try.prog 88 5 (.int .u64 (v.fdiv (2 ^ (8 * d)))) h = some (.int .u8 (v / 256 ^ d % 256), h) := fun h => by
          rw [conv_int (k := .u8) (ds := .int .u64) (by simp) (by simp), shr_dig h0]
        have hol : o.length ≤ 1048576 + 8 := by
          have := congrArg List.length ho
          simp [dig_len] at this; omega
        have hb8 : 0 ≤ v / 256 ^ d % 256 ∧ v / 256 ^ d % 256 ≤ 255 := by
          generalize v / 256 ^ d = q; omega
        have hneg : ¬ (8 * (d : Int) < 0) := by omega
        have hl1 : (o.length + 1) * 1 ≤ 70368744177664 := by omega
        have hl2 : o.length + 1 ≤ 70368744177664 := by omega
        obtain ⟨s', h', b2, a1, a2, a3, a4, a5⟩ := Ty.R.app1 (P := Try.prog) (T := 22) (e := 5) (t := .int .u8) (c := [.int .u8 (v / 256 ^ d % 256)]) (d := v / 256 ^ d % 256) (b1 := []) hR ⟨rfl, by rw [u8_mm.1]; exact hb8.1, by rw [u8_mm.2]; exact hb8.2, rfl⟩ (by simpa using hb1)
          (by simp) (by simp) (by simp [Ty.n]) (by_ := 1) (by simp) (z := [.int .u8 0]) (by simp) (by simp [Ty.n]) hl1 hl2
        have w1 := wrap_i64 (n := 8 * (d : Int)) (by omega) (by omega)
        have w2 := wrap_i64 (n := (d : Int) - 1) (by omega) (by omega)
        rewrite [lp58_26]
        simp [Try.f58, t0, t1, t7, cv1, w1, w2, hneg, hmin, IntKind.bits, cv2, zerosA, spl, a1]
        refine ⟨d, by omega, o ++ [v / 256 ^ d % 256], b2, by simp [t1], by simp, by omega, ?_, by simpa using a2, a3, fun b hb => ?_, hK.trans a5 hb2⟩
        · rw [← ho, dig_head, List.append_assoc]; rfl
        · rcases a4 b hb with h | h | h
          · exact hb2 b h
          · simp at h
          · have := hK.next; omega)
    ⟨l, bs, by simp, by simp, Nat.le_refl _, rfl, by simpa using hs, hnd, fun b hb => .inl hb, KoS.refl _ _⟩ (by omega))
  simp
  exact ⟨_, _, ⟨rfl, rfl⟩, b', g1, g2, g3, g4⟩
theorem digits_ev : ∀ (n : Nat) {H : AH} {v : Int} (h0 : 0 ≤ v) (h1 : v ≤ 9223372036854775807) (hn : n ≤ 8) (m : Nat) (hm : n + 2 ≤ m),
    ∃ r H' b', ev Try.prog m 59 [.int .i64 v, .int .i64 n] H = some (r, H') ∧ tB.R true H' [r] (dig v n) b' ∧ b'.Nodup ∧ (∀ b ∈ b', H.next ≤ b) ∧ Kp H H'
  | 0, H, v, h0, h1, hn, m, hm => by
    obtain ⟨m, rfl⟩ : ∃ k, m = k + 1 := ⟨m - 1, by omega⟩
    rw [ev_eq Try.func59 ok59 m _ H (by simp [Try.f59])]
    simp [Try.f59, zerosA]
    exact ⟨_, _, ⟨rfl, rfl⟩, [H.next], ints_one (l := []) (by simp) (by simp) (by simp), by simp, by simp, (Kp.refl H).push _⟩
  | n + 1, H, v, h0, h1, hn, m, hm => by
    obtain ⟨m, rfl⟩ : ∃ k, m = k + 1 := ⟨m - 1, by omega⟩
    obtain ⟨r, H1, b1, a1, a2, a3, a4, a5⟩ := digits_ev n (H := H) (v := v / 256) (by omega) (by omega) (by omega) m (by omega)
    rw [ev_eq Try.func59 ok59 m _ H (by simp [Try.f59])]
    have e1 : ((n + 1 : Nat) : Int) - 1 = n := by omega
    have hne : ¬ (((n : Int) + 1) = 0) := by omega
    have q1 : v.tdiv 256 = v / 256 := Int.tdiv_eq_ediv_of_nonneg h0
    have q2 : v.tmod 256 = v % 256 := Int.tmod_eq_emod_of_nonneg h0
    have w1 := wrap_i64 (n := v / 256) (by omega) (by omega)
    have w2 := wrap_i64 (n := (n : Int)) (by omega) (by omega)
    have cv1 : ∀ h, convA Try.prog 3 5 (.int .i64 (v % 256)) h = some (.int .u8 (v % 256), h) := fun h => by
      rw [conv_int (k := .u8) (ds := .int .i64) (by simp) (by simp), wrap_u8]; congr 3; omega
    have hb8 : 0 ≤ v % 256 ∧ v % 256 ≤ 255 := by omega
    have hl2 : (dig (v / 256) n).length + 1 ≤ 70368744177664 := by rw [dig_len]; omega
    have hl1 : ((dig (v / 256) n).length + 1) * 1 ≤ 70368744177664 := by omega
    obtain ⟨s', h', b2, c1, c2, c3, c4, c5⟩ := Ty.R.app1 (P := Try.prog) (T := 22) (e := 5) (t := .int .u8) (c := [.int .u8 (v % 256)]) (d := v % 256) (b1 := []) a2 ⟨rfl, by rw [u8_mm.1]; exact hb8.1, by rw [u8_mm.2]; exact hb8.2, rfl⟩ (by simpa using a3)
      (by simp) (by simp) (by simp [Ty.n]) (by_ := 1) (by simp) (z := [.int .u8 0]) (by simp) (by simp [Ty.n]) hl1 hl2
    have hz : ¬ ((n : Int) + 1 = 0) := by omega
    simp [Try.f59, hz, q1, q2, w1, w2, a1, cv1, zerosA, spl, c1]
    refine ⟨_, _, ⟨rfl, rfl⟩, b2, by simpa [dig] using c2, c3, fun b hb => ?_, c5.kp a5 a4⟩
    rcases c4 b hb with h | h | h
    · exact a4 b h
    · simp at h
    · have := a5.next; omega
end Go.Ev

/- The program's digest. -/
namespace Go.Ev
open Go Go.Proofs
set_option linter.unusedSimpArgs false
set_option linter.unusedVariables false

theorem u32_in (n : Int) : 0 ≤ IntKind.u32.wrap n ∧ IntKind.u32.wrap n < 4294967296 := by
  have : IntKind.u32.wrap n = n % 4294967296 := by simp [IntKind.wrap, IntKind.signed, IntKind.bits]
  rw [this]; omega
theorem bits_in (op : BinOp) (x y : Int) : 0 ≤ bits op .u32 x y ∧ bits op .u32 x y < 4294967296 := by
  unfold bits
  exact u32_in _
def Sti.ok (s : Sti) : Prop := (0 ≤ s.a ∧ s.a < 4294967296) ∧ (0 ≤ s.b ∧ s.b < 4294967296) ∧ (0 ≤ s.c ∧ s.c < 4294967296) ∧ (0 ≤ s.d ∧ s.d < 4294967296)
theorem rotU_in (x : Int) (k : Nat) : 0 ≤ rotU x k ∧ rotU x k < 4294967296 := by
  have h := bits_in .or (IntKind.u32.wrap (x * 2 ^ k)) (x.fdiv (2 ^ (32 - k)))
  rw [rotU]; exact h
theorem st1_ok (s : Sti) (x : Int) : (st1 s x).ok := by
  rw [st1]
  refine ⟨?_, ?_, ?_, ?_⟩
  · exact bits_in .xor (stA s x) (stD s x)
  · exact rotU_in (IntKind.u32.wrap (s.b + stA s x)) 7
  · exact rotU_in (bits .xor .u32 s.c (stB s x)) 13
  · exact rotU_in (IntKind.u32.wrap (s.d + stC s x)) 17
theorem stL_ok : ∀ (l : List Int) (s : Sti), s.ok → (stL s l).ok
  | [], s, h => by rw [stL_nil]; exact h
  | x :: l, s, h => by
    have : stL s (x :: l) = stL (st1 s x) l := by rw [← st1_L, ← stL_app]; rfl
    rw [this]
    exact stL_ok l _ (st1_ok s x)
def st0 : Sti := ⟨1779033703, 3144134277, 1013904242, 2773480762⟩
theorem st0_ok : st0.ok := by simp [st0, Sti.ok]
def stD5 (key data : List Int) : Sti := stL (stL (stL (stL st0 (dig key.length 4)) key) data) (dig data.length 4)
def stF (key data : List Int) : Sti := stL (stD5 key data) (List.replicate 16 165)
theorem stF_ok (key data : List Int) : (stF key data).ok := stL_ok _ _ (stL_ok _ _ (stL_ok _ _ (stL_ok _ _ (stL_ok _ _ st0_ok))))
def digestL (key data : List Int) : List Int := dig (stF key data).a 4 ++ dig (stF key data).b 4 ++ dig (stF key data).c 4 ++ dig (stF key data).d 4

/-- the stirrer lies behind H and holds S -/
structure Dg (H : AH) (S : Sti) (h : AH) : Prop where
  kp : Kp H h
  lt : H.next < h.next
  get : h.get H.next = some (.cells 92 false S.cells)
theorem Dg.step {H h : AH} {S : Sti} (g : Dg H S h) (l : List Int) : Dg H (stL S l) (h.set H.next (.cells 92 false (stL S l).cells)) :=
  ⟨g.kp.set (Nat.le_refl _) _, g.lt, by simp⟩
theorem Dg.up {H h h' : AH} {S : Sti} (g : Dg H S h) (k : Kp h h') : Dg H S h' := ⟨g.kp.trans k, by have := k.next; have := g.lt; omega, by rw [k.get _ g.lt]; exact g.get⟩
/-- what was there is stirred in -/
theorem Dg.old {H h : AH} {S : Sti} (g : Dg H S h) {s : AV} {l : List Int} (hs : Bs H s l) (hl : l.length ≤ 1048576) (m : Nat) (hm : l.length + 4 ≤ m) : ev Try.prog m 77 [.ptr H.next 0, s] h = some (U, h.set H.next (.cells 92 false (stL S l).cells)) := by
  refine stirI_ev hs (fun b hb _ => g.kp.get b hb) (fun b o n e => ?_) g.get hl m hm
  subst e
  rcases hs.lie with ⟨e, _⟩ | ⟨b', o', ro, xs, e, hn, _⟩
  · simp at e
  · simp at e; omega
/-- what is new is stirred in -/
theorem Dg.new {H h : AH} {S : Sti} (g : Dg H S h) {s : AV} {l : List Int} {bs : List Nat} (hs : tB.R true h [s] l bs) (hb : ∀ b ∈ bs, H.next < b) (hl : l.length ≤ 1048576) (m : Nat) (hm : l.length + 4 ≤ m) : ev Try.prog m 77 [.ptr H.next 0, s] h = some (U, h.set H.next (.cells 92 false (stL S l).cells)) := by
  refine stirI_ev (tB_bs hs).1 (fun b hb _ => rfl) (fun b o n e => ?_) g.get hl m hm
  subst e
  rcases tB_one hs with ⟨e, _⟩ | ⟨b', rfl, e, _⟩
  · simp at e
  · simp at e; have := hb b' (by simp); omega
def DgLoop (H : AH) (S : Sti) (d : Nat) (τ : Tm) (h : AH) : Prop := ∃ k, k + d = 16 ∧ τ 5 = .ptr H.next 0 ∧ τ 27 = .int .i64 k ∧ Dg H (stL S (List.replicate k 165)) h
def xsOf (S : Sti) : List Int := [S.a, S.b, S.c, S.d]
def DgOut (H : AH) (S : Sti) (d : Nat) (τ : Tm) (h : AH) : Prop := ∃ k bs, k + d = 4 ∧ τ 50 = .agg S.cells ∧ τ 51 = .int .i64 k ∧ tB.R true h [τ 6] (((xsOf S).take k).flatMap (dig · 4)) bs ∧ bs.Nodup ∧ (∀ b ∈ bs, H.next ≤ b) ∧ Kp H h
theorem digestI_ev {H : AH} {s1 s2 : AV} {key data : List Int} (h1 : Bs H s1 key) (h2 : Bs H s2 data) (hl1 : key.length ≤ 1048576) (hl2 : data.length ≤ 1048576) (m : Nat) (hm : key.length + data.length + 30 ≤ m) :
    ∃ r H' bs, ev Try.prog m 61 [s1, s2] H = some (r, H') ∧ tB.R true H' [r] (digestL key data) bs ∧ bs.Nodup ∧ (∀ b ∈ bs, H.next ≤ b) ∧ Kp H H' := by
  obtain ⟨m, rfl⟩ : ∃ k, m = k + 1 := ⟨m - 1, by omega⟩
  have L1 : ∀ h, lenA Try.prog 22 s1 h = some (.int .i64 key.length) := h1.len
  have L2 : ∀ h, lenA Try.prog 22 s2 h = some (.int .i64 data.length) := h2.len
  rw [ev_eq Try.func61 ok61 m _ H (by simp [Try.f61])]
  have hc : ∀ S : Sti, S.cells = [.int .u32 S.a, .int .u32 S.b, .int .u32 S.c, .int .u32 S.d] := fun _ => rfl
  have g0 : Dg H st0 (H.push (.cells 92 false st0.cells)) := ⟨(Kp.refl H).push _, by simp, by simp⟩
  obtain ⟨r1, H1, b1, a1, a2, a3, a4, a5⟩ := fixed58_ev (H := H.push (.cells 92 false st0.cells)) (s := .nilSlice) (l := []) (bs := []) (.inl ⟨rfl, rfl, rfl⟩) (by simp) (v := key.length) (by omega) (by omega) (n := 4) (by omega) (by simp) m (by omega)
  have K1 : Kp (H.push (.cells 92 false st0.cells)) H1 := a5.kp (Kp.refl _) (by simp)
  have g1 := g0.up K1
  simp only [List.nil_append] at a2
  have e1 := g1.new a2 (fun b hb => by rcases a4 b hb with h | h; simp at h; simp at h; omega) (by simp [dig_len]) m (by simp [dig_len]; omega)
  have g2 := g1.step (dig key.length 4)
  have e2 := g2.old h1 hl1 m (by omega)
  have g3 := g2.step key
  have e3 := g3.old h2 hl2 m (by omega)
  have g4 := g3.step data
  obtain ⟨r2, H2, b2, c1, c2, c3, c4, c5⟩ := fixed58_ev (s := .nilSlice) (l := []) (bs := []) (.inl ⟨rfl, rfl, rfl⟩) (by simp) (v := data.length) (by omega) (by omega) (n := 4) (by omega) (by simp) m (by omega)
  have g5 := g4.up (c5.kp (Kp.refl _) (by simp))
  simp only [List.nil_append] at c2
  have e4 := g5.new c2 (fun b hb => by rcases c4 b hb with h | h; simp at h; have := g4.lt; omega) (by simp [dig_len]) m (by simp [dig_len]; omega)
  have g6 := g5.step (dig data.length 4)
  have hst : (.int .u32 1779033703 :: .int .u32 3144134277 :: .int .u32 1013904242 :: [.int .u32 2773480762] : List AV) = st0.cells := rfl
  have hS : stL (stL (stL (stL st0 (dig key.length 4)) key) data) (dig data.length 4) = stD5 key data := rfl
  rw [hS] at g6
  have hone : st0.cells.all AV.one = true := rfl
  simp only [Int.cast_ofNat_Int] at a1 c1
  simp only [set_set] at g2 g3 g4 e3 c1 e4 g6
  simp only [hc, st0] at a1 e1 e2 e3 c1 e4
  have hnn : ¬ (H.next + 1 = H.next) := by omega
  simp [Try.f61, L1, L2, a1, e1, e2, e3, c1, e4, spl]
  generalize hLo : evLoop _ _ _ _ _ _ = R
  obtain ⟨e, τ', H', rfl, rfl, t5, g7⟩ := loop_at hLo (loop_rule (d := 16) (DgLoop H (stD5 key data))
    (fun e τ h => e = .exit 0 ∧ τ 5 = .ptr H.next 0 ∧ Dg H (stF key data) h)
    (by
      rintro d τ h ⟨k, hk, t5, t27, g⟩
      by_cases hd : d = 0
      · subst hd
        have : k = 16 := by omega
        subst this
        rewrite [lp61_1018]
        simp [Try.f61, t27]
        exact ⟨t5, g⟩
      · have hlt : (k : Int) < 16 := by omega
        have gp := g.up ((Kp.refl h).push (.cells 5 false [.int .u8 165]))
        have q := gp.new (s := .slice h.next 0 1) (l := [165]) (bs := [h.next]) (ints_one (e := 5) (k := .u8) (H := h.push (.cells 5 false [.int .u8 165])) (l := [165]) (b := h.next) (by simp) (by simp) (by rw [u8_mm.1, u8_mm.2]; simp)) (by simp; exact g.lt) (by simp) m (by simp; omega)
        rewrite [lp61_1018]
        simp [Try.f61, t5, t27, hlt, zerosA, spl, q, wrap_i64 (n := (k : Int) + 1) (by omega) (by omega)]
        refine ⟨d - 1, by omega, k + 1, by omega, by simp [t5], by simp, ?_⟩
        rw [List.replicate_succ', stL_app]
        exact gp.step [165])
    ⟨0, by omega, by simp, by simp, by rw [List.replicate_zero, stL_nil]; exact g6⟩ (by omega))
  have g8 := g7.get
  rw [hc] at g8
  have hlt := g7.lt
  have hnn : ¬ (H.next = H'.next) := by omega
  obtain ⟨okA, okB, okC, okD⟩ := stF_ok key data
  have hfin : digestL key data = (xsOf (stF key data)).flatMap (dig · 4) := by simp [xsOf, digestL]
  rw [hfin]
  generalize stF key data = S at *
  simp [t5, ldVar, g8, hnn, spl, U]
  generalize hLo : evLoop _ _ _ _ _ _ = R
  obtain ⟨e, τ'', H'', rfl, rfl, bs, u1, u2, u3, u4⟩ := loop_at hLo (loop_rule (d := 4) (DgOut H S)
    (fun e τ h => e = .exit 2 ∧ ∃ bs, tB.R true h [τ 6] ((xsOf S).flatMap (dig · 4)) bs ∧ bs.Nodup ∧ (∀ b ∈ bs, H.next ≤ b) ∧ Kp H h)
    (by
      rintro d τ h ⟨k, bs, hk, t50, t51, hR, hnd, hlo, hK⟩
      generalize t6 : τ 6 = x at *
      by_cases hd : d = 0
      · subst hd
        have : k = 4 := by omega
        subst this
        rewrite [lp61_4090]
        simp [Try.f61, t51, t6]
        exact ⟨bs, by simpa [xsOf] using hR, hnd, hlo, hK⟩
      · have hlt : (k : Int) < 4 := by omega
        have hlt' : k < (xsOf S).length := by simp [xsOf]; omega
        have hidx : S.cells[k]? = some (.int .u32 (xsOf S)[k]) ∧ 0 ≤ (xsOf S)[k] ∧ (xsOf S)[k] < 4294967296 := by
          rcases (by omega : k = 0 ∨ k = 1 ∨ k = 2 ∨ k = 3) with rfl | rfl | rfl | rfl <;> simp [hc, xsOf, okA, okB, okC, okD]
        obtain ⟨i1, i2, i3⟩ := hidx
        have cv1 : ∀ h, convA Try.prog 90 3 (.int .u32 (xsOf S)[k]) h = some (.int .i64 (xsOf S)[k], h) := fun h => by
          rw [conv_int (k := .i64) (ds := .int .u32) (by simp) (by simp), wrap_i64 (by omega) (by omega)]
        have hlen : (((xsOf S).take k).flatMap (dig · 4)).length ≤ 1048576 := by
          rcases (by omega : k = 0 ∨ k = 1 ∨ k = 2 ∨ k = 3) with rfl | rfl | rfl | rfl <;> simp [xsOf, dig_len]
        obtain ⟨r, h', b', f1, f2, f3, f4, f5⟩ := fixed58_ev hR hnd i2 (by omega) (n := 4) (by omega) hlen m (by omega)
        simp only [Int.cast_ofNat_Int] at f1
        rewrite [lp61_4090]
        simp [Try.f61, t50, t51, t6, hlt, i1, cv1, f1, wrap_i64 (n := (k : Int) + 1) (by omega) (by omega)]
        refine ⟨d - 1, by omega, k + 1, b', by omega, by simp [t50], by simp, ?_, f3, fun b hb => ?_, f5.kp hK hlo⟩
        · rw [List.take_add_one, List.getElem?_eq_getElem hlt', List.flatMap_append]
          simpa using f2
        · rcases f4 b hb with h | h
          · exact hlo b h
          · have := hK.next; omega)
    ⟨0, [H'.next], by omega, by simp [hc], by simp, by simpa using ints_one (e := 5) (k := .u8) (H := H'.push (.cells 5 false [])) (l := []) (b := H'.next) (by simp) (by simp) (by simp), by simp, by simp; omega, g7.kp.push _⟩ (by omega))
  simp
  exact ⟨_, _, ⟨rfl, rfl⟩, bs, u1, u2, u3, u4⟩
end Go.Ev
