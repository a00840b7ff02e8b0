/- Lemmas of an evaluator of the given code and of what the functions answer; no condition of its own. -/
import Derived.Test.YtcblbbilllokkaaEv3
import Derived.Laws.Bits64b
/- From the evaluator's answer to the machine's call: slices of whole numbers that came in. -/
namespace Go.Ev
open Go Go.RowKit
set_option linter.unusedSimpArgs false
set_option linter.unusedVariables false

/-- A slice of whole numbers that came in. -/
structure InRow where
  k : IntKind
  e : TypeId
  a : Option Addr
  len : Nat
  cap : Nat
  zs : List Int
def InRow.av (b : Nat) (r : InRow) : AV := match r.a with | none => .nilSlice | some _ => .slice b 0 r.len
def InRow.loc (r : InRow) : Loc := match r.a with | none => ⟨0, 0, 0, 1⟩ | some x => ⟨x.block, x.off, x.off + r.cap, 1⟩
def H0 (rs : List InRow) : AH := { get := fun b => rs[b]?.map fun r => .cells r.e true (r.zs.map (.int r.k)), next := rs.length }
def mu0 (rs : List InRow) : Mu := fun b => rs[b]?.map InRow.loc
def InRow.row (w : World) (r : InRow) : Prop :=
  (r.a = none ∧ r.len = 0 ∧ r.cap = 0 ∧ r.zs = []) ∨
  ∃ x, r.a = some x ∧ r.len ≤ r.cap ∧ r.cap ≤ maxLen ∧ r.zs.length = r.cap ∧ (∀ i, i < r.zs.length → w.cell? (x.add i) = some (.int r.k (r.zs.getD i 0))) ∧ ∀ n ∈ r.zs, (Lit.int r.k n).wf = true
def InRow.ok (P : Program) (w : World) (r : InRow) : Prop := (P.info? r.e).map (·.size) = some 1 ∧ r.row w

theorem cell_spot {w : World} {x : Addr} {v : Value} (h : w.cell? x = some v) : x.spot = none ∧ x.block < w.heap.size := by
  unfold World.cell? at h
  split at h
  · rename_i c _ _ hc
    refine ⟨?_, ?_⟩
    · split at h
      · simp at h
      · rename_i hs; simpa using hs
    · rcases Nat.lt_or_ge x.block w.heap.size with hl | hl
      · exact hl
      · rw [Array.getElem?_eq_none hl] at hc; simp at hc
  · simp at h

theorem rel0 {P : Program} {w : World} {rs : List InRow} (h : ∀ r ∈ rs, r.ok P w) : Rel P w (H0 rs) (mu0 rs) w := by
  refine ⟨Below.refl _ _, ?_, ?_, ?_, ?_⟩
  · intro b hb; simp only [mu0]; rw [List.getElem?_eq_none hb]; rfl
  · intro b x hb
    simp only [H0, Option.map_eq_some_iff] at hb
    obtain ⟨r, hr, _⟩ := hb
    exact (List.getElem?_eq_some_iff.mp hr).1
  · intro b x hb
    simp only [H0, Option.map_eq_some_iff] at hb
    obtain ⟨r, hr, rfl⟩ := hb
    have hok := h r (List.mem_of_getElem? hr)
    refine ⟨r.loc, by simp [mu0, hr], by rw [List.all_eq_true]; intro a ha; obtain ⟨z, _, rfl⟩ := List.mem_map.mp ha; rfl, ?_, ?_, ?_⟩
    · rw [hok.1]; unfold InRow.loc; split <;> rfl
    · rcases hok.2 with ⟨h1, h2, h3, h4⟩ | ⟨y, h1, h2, h3, h4, h5⟩
      · simp [InRow.loc, h1, h4]
      · simp [InRow.loc, h1, h4]
    · intro i a ha
      rcases hok.2 with ⟨h1, h2, h3, h4⟩ | ⟨y, h1, h2, h3, h4, h5, h6⟩
      · simp [h4] at ha
      · have hi : i < r.zs.length := by
          have := (List.getElem?_eq_some_iff.mp ha).1
          simpa using this
        have hsp : y.spot = none := (cell_spot (by have := h5 0 (by omega); simpa [Addr.add] using this)).1
        have hc := h5 i hi
        have he : y.add i = ⟨y.block, y.off + i, none⟩ := by
          unfold Addr.add; split
          · rename_i h0; subst h0; obtain ⟨b, o, s⟩ := y; simp at hsp; subst hsp; rfl
          · rfl
        rw [he] at hc
        simp only [InRow.loc, h1]
        refine ⟨(cell_spot hc).2, _, hc, ?_⟩
        rw [List.getElem?_map, List.getElem?_eq_getElem hi] at ha
        simp only [Option.map_some, Option.some.injEq] at ha
        subst ha
        simp [VR, List.getD_eq_getElem?_getD, List.getElem?_eq_getElem hi]
  · intro b x hb hrw
    simp only [H0, Option.map_eq_some_iff] at hb
    obtain ⟨r, hr, rfl⟩ := hb
    simp [Blk.rw] at hrw

theorem vr_row {P : Program} {w : World} {rs : List InRow} {b : Nat} {r : InRow} (hb : rs[b]? = some r) (h : r.ok P w) : VR (mu0 rs) (r.av b) (.slice r.a r.len r.cap) := by
  rcases h.2 with ⟨h1, h2, h3, h4⟩ | ⟨y, h1, h2, h3, h4, h5, h6⟩
  · simp [InRow.av, h1, h2, h3, VR]
  · simp only [InRow.av, h1, VR]
    refine ⟨r.loc, r.cap, y, by simp [mu0, hb], rfl, h2, fun hc => ?_⟩
    have hsp : y.spot = none := (cell_spot (by have := h5 0 (by omega); simpa [Addr.add] using this)).1
    obtain ⟨b, o, s⟩ := y; simp at hsp; subst hsp
    simp [InRow.loc, h1]

theorem sl_row {P : Program} {w : World} {rs : List InRow} {b : Nat} {r : InRow} {t : TypeId} (hb : rs[b]? = some r) (h : r.ok P w) (ht : P.underlying t = some (.slice r.e)) (hs : sizeT P r.e = some 1) (ha : aggT P r.e = some false) :
    Sl P t r.e (H0 rs) (r.av b) ((r.zs.take r.len).map (.int r.k)) := by
  refine ⟨ht, hs, ha, ?_⟩
  rcases h.2 with ⟨h1, h2, h3, h4⟩ | ⟨y, h1, h2, h3, h4, h5, h6⟩
  · exact .inl (by simp [InRow.av, h1, h4])
  · refine .inr ⟨b, 0, true, r.zs.map (.int r.k), ?_, ?_, by simp [H0, hb], ?_, ?_⟩
    · have : min r.len r.zs.length = r.len := by omega
      simp [InRow.av, h1, this]
    · exact (List.getElem?_eq_some_iff.mp hb).1
    · simp; omega
    · have : min r.len r.zs.length = r.len := by omega
      simp [this]

theorem law_run {P : Program} (hm : P.follows .mixedOrders = true) {w : World} {rs : List InRow} {n : Nat} {f : FuncId} {args : List AV} {vs : Array Value} {H' : AH}
    (h : ev P n f args (H0 rs) = some (.bool true, H')) (hok : ∀ r ∈ rs, r.ok P w) (hv : VRs (mu0 rs) args vs.toList) :
    Calls P f vs w fun e w' => e = .returned (.bool true) ∧ Below w.heap.size w w' := by
  refine (ev_sound hm n f args (H0 rs) (.bool true) H' (mu0 rs) w vs h (rel0 hok) hv).2.mono ?_
  rintro e w' ⟨v, μ', rfl, hx, hR, hv⟩
  simp only [VR] at hv
  subst hv
  exact ⟨rfl, hR.below⟩
end Go.Ev

/- Bits: some laws of whole numbers. -/
namespace Go.Ev
open Go Go.RowKit
theorem or_byte {u x : Int} (hu : 0 ≤ u) (hu2 : u < 72057594037927936) (hx : 0 ≤ x) (hx2 : x < 256) : bits .or .u64 (u * 256) x = u * 256 + x := by
  obtain ⟨a, rfl⟩ := Int.eq_ofNat_of_zero_le hu
  obtain ⟨b, rfl⟩ := Int.eq_ofNat_of_zero_le hx
  have h := bits_or_u64_nat (2 ^ 8 * a) b (by omega) (by omega)
  rw [← Nat.two_pow_add_eq_or_of_lt (by omega : b < 2 ^ 8)] at h
  have e1 : ((2 ^ 8 * a : Nat) : Int) = (a : Int) * 256 := by omega
  rw [e1] at h
  rw [h]; omega
theorem and_mask {v : Int} (k : Nat) (hk : k ≤ 62) : bits .and .i64 v (2 ^ k - 1) = v % 2 ^ k := by
  have hm : ((2 : Int) ^ k - 1) = ((2 ^ k - 1 : Nat) : Int) := by
    have : 1 ≤ 2 ^ k := Nat.one_le_two_pow
    rw [Int.ofNat_sub this]; simp
  show IntKind.i64.wrap ((BitVec.ofInt 64 v &&& BitVec.ofInt 64 (2 ^ k - 1)).toNat : Int) = _
  have h2 : (BitVec.ofInt 64 (2 ^ k - 1)).toNat = 2 ^ k - 1 := by
    rw [hm, BitVec.ofInt_natCast, BitVec.toNat_ofNat]
    refine Nat.mod_eq_of_lt ?_
    have : 2 ^ k ≤ 2 ^ 62 := Nat.pow_le_pow_right (by omega) hk
    omega
  rw [BitVec.toNat_and, h2, Nat.and_two_pow_sub_one_eq_mod]
  have h3 : ((BitVec.ofInt 64 v).toNat : Int) = v % 18446744073709551616 := by
    rw [BitVec.toNat_ofInt]
    have := Int.emod_nonneg v (by decide : (18446744073709551616 : Int) ≠ 0)
    simp
    omega
  have hp : (2 : Int) ^ k ≤ 2 ^ 62 := by
    have : 2 ^ k ≤ 2 ^ 62 := Nat.pow_le_pow_right (by omega) hk
    exact_mod_cast this
  have hp0 : (0 : Int) < 2 ^ k := by
    have : 0 < 2 ^ k := Nat.two_pow_pos k
    exact_mod_cast this
  have h4 : ((((BitVec.ofInt 64 v).toNat % 2 ^ k : Nat)) : Int) = v % 2 ^ k := by
    rw [Int.natCast_emod, h3]
    have hd : (2 : Int) ^ k ∣ 18446744073709551616 := by
      have : (18446744073709551616 : Int) = 2 ^ k * 2 ^ (64 - k) := by
        rw [← Int.pow_add, show k + (64 - k) = 64 by omega]; rfl
      exact ⟨_, this⟩
    have hc : ((2 ^ k : Nat) : Int) = (2 : Int) ^ k := by norm_cast
    rw [hc]
    exact Int.emod_emod_of_dvd _ hd
  rw [h4, IntKind.wrap_i64]
  have h5 := Int.emod_nonneg v (Int.ne_of_gt hp0)
  have h6 := Int.emod_lt_of_pos v hp0
  have h7 : (2 : Int) ^ 62 = 4611686018427387904 := by decide
  omega
theorem and_m6 (v : Int) : bits .and .i64 (IntKind.i64.wrap v) 63 = v % 64 := by
  rw [show (63 : Int) = 2 ^ 6 - 1 by decide, and_mask 6 (by decide), IntKind.wrap_i64]; omega
theorem and_m14 (v : Int) : bits .and .i64 (IntKind.i64.wrap v) 16383 = v % 16384 := by
  rw [show (16383 : Int) = 2 ^ 14 - 1 by decide, and_mask 14 (by decide), IntKind.wrap_i64]; omega
theorem and_m30 (v : Int) : bits .and .i64 (IntKind.i64.wrap v) 1073741823 = v % 1073741824 := by
  rw [show (1073741823 : Int) = 2 ^ 30 - 1 by decide, and_mask 30 (by decide), IntKind.wrap_i64]; omega
theorem and_m62 (v : Int) : bits .and .i64 (IntKind.i64.wrap v) 4611686018427387903 = v % 4611686018427387904 := by
  rw [show (4611686018427387903 : Int) = 2 ^ 62 - 1 by decide, and_mask 62 (by decide), IntKind.wrap_i64]; omega
end Go.Ev
