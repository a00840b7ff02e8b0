/- Lemmas of an evaluator of the given code and of what the functions answer; no condition of its own. -/
import Derived.Test.YtcblbbilllokkabEv0
/- The evaluator's append is the machine's. -/
namespace Go.Ev
open Go Go.RowKit
set_option linter.unusedSimpArgs false
set_option linter.unusedVariables false

def setsA (cs : Array Value) (o : Nat) : List Value → Array Value
  | [] => cs
  | v :: vs => setsA (cs.setIfInBounds o v) (o + 1) vs
theorem setsA_size : ∀ (vs : List Value) (cs : Array Value) (o : Nat), (setsA cs o vs).size = cs.size
  | [], _, _ => rfl
  | v :: vs, cs, o => by simp [setsA, setsA_size vs]
theorem setsA_lo : ∀ (vs : List Value) (cs : Array Value) (o i : Nat), i < o → (setsA cs o vs)[i]? = cs[i]?
  | [], _, _, _, _ => rfl
  | v :: vs, cs, o, i, h => by
    simp only [setsA]
    rw [setsA_lo vs _ _ _ (by omega), Array.getElem?_setIfInBounds, if_neg (by omega)]
theorem setsA_in : ∀ (vs : List Value) (cs : Array Value) (o j : Nat), o + vs.length ≤ cs.size → j < vs.length → (setsA cs o vs)[o + j]? = vs[j]?
  | [], _, _, _, _, h => by simp at h
  | v :: vs, cs, o, 0, hl, h => by
    simp only [setsA, Nat.add_zero, List.getElem?_cons_zero]
    rw [setsA_lo vs _ _ _ (by omega), Array.getElem?_setIfInBounds]
    simp only [List.length_cons] at hl
    simp; omega
  | v :: vs, cs, o, j + 1, hl, h => by
    simp only [List.length_cons] at hl h
    have := setsA_in vs (cs.setIfInBounds o v) (o + 1) j (by simp; omega) (by omega)
    simp only [setsA, List.getElem?_cons_succ]
    rw [← this]; congr 1; omega
theorem heap_sets (c : Nat) : ∀ (vs : List Value) (w : World) (o : Nat) {cs : Array Value} {e : TypeId} {fz : Nat × Nat}, w.heap[c]? = some (.cells cs e fz) → (w.setCells c o vs).heap[c]? = some (.cells (setsA cs o vs) e fz)
  | [], _, _, _, _, _, h => h
  | v :: vs, w, o, cs, e, fz, h => by
    simp only [World.setCells, setsA]
    exact heap_sets c vs _ _ (heap_set w c o v h)
theorem heap_sets_ne (c : Nat) : ∀ (vs : List Value) (w : World) (o : Nat) {k : Nat}, k ≠ c → (w.setCells c o vs).heap[k]? = w.heap[k]?
  | [], _, _, _, _ => rfl
  | v :: vs, w, o, k, h => by
    simp only [World.setCells]
    rw [heap_sets_ne c vs _ _ h, heap_set_ne w c o v h]
theorem below_sets {B : Nat} {a : World} (c : Nat) (hc : B ≤ c) : ∀ (vs : List Value) (w : World) (o : Nat), Below B a w → Below B a (w.setCells c o vs)
  | [], _, _, h => h
  | v :: vs, w, o, h => below_sets c hc vs _ _ (h.setCell (p := ⟨c, o, none⟩) hc v)

section
variable {P : Program} {w0 : World} {H : AH} {μ : Mu} {w : World}

theorem zeroCells_size (z : Array Value) (n : Nat) : (Builtin.zeroCells z n).size = n * z.size := by simp [Builtin.zeroCells]

theorem app_grow (hR : Rel P w0 H μ w) {t tx ty e : TypeId} {i : TypeInfo} {z : Value} (ht : P.underlying t = some (.slice e)) (hi : P.info? e = some i) (hz : i.zero = some z) (hzs : z.cells.size = i.size)
    {base : Option Addr} {n cap m : Nat} {old news : List AV} {olds vs : List Value} (hold : (Builtin.firstCells i.size n (.slice base n cap)).run P w.drew = .ok olds.toArray w.drew) (hoR : VRs μ old olds) (ho1 : old.all AV.one = true) (hol : olds.length = n * i.size)
    {v : Value} (hs : Src P i.size tx v m vs w) (hnR : VRs μ news vs) (hn1 : news.all AV.one = true) (hg : cap < n + m)
    (hb : (n + m) * i.bytes ≤ 70368744177664) (hm : n + m ≤ 70368744177664) :
    Does P w0 μ (H.push (.cells e false (old ++ news))) ((Builtin.append_ #[t, tx] ty #[.slice base n cap, v]).run P w) (.slice H.next 0 (n + m)) := by
  rw [run_append_grow_src w t tx ty e i z ht hi hz base n cap olds hold v m vs hs hg (by omega) (growslice_fits hg (by omega))]
  have hle : n + m ≤ grownCap w (n + m) cap e := by
    simp [grownCap, Question.cut]
  have hsz : ((olds ++ vs).toArray ++ Builtin.zeroCells z.cells (grownCap w (n + m) cap e - (n + m))).size = grownCap w (n + m) cap e * i.size := by
    simp only [Array.size_append, List.size_toArray, List.length_append, zeroCells_size, hzs, hol, hs.newsLen]
    rw [← Nat.add_mul, ← Nat.add_mul]; congr 1; omega
  have hap := hoR.append hnR
  refine push_slice (hR.drew) (sz := i.size) (by simp [sizeT, hi]) ?_ hle (by rw [hsz]; exact Nat.le_refl _)
  refine ⟨by simp only [List.all_append, ho1, hn1, Bool.and_self], by rw [hsz, Nat.zero_add, hap.length, List.length_append, hol, hs.newsLen, ← Nat.add_mul]; exact Nat.mul_le_mul_right _ hle, fun j a ha => ?_⟩
  obtain ⟨u, h1, h2⟩ := hap.get j a ha
  refine ⟨u, ?_, h2⟩
  have hj : j < (olds ++ vs).length := by
    rcases Nat.lt_or_ge j (olds ++ vs).length with hj | hj
    · exact hj
    · rw [List.getElem?_eq_none hj] at h1; simp at h1
  rw [Nat.zero_add, Array.getElem?_append_left (by simpa using hj)]
  simpa using h1

theorem appA_sound (hR : Rel P w0 H μ w) {t tx : TypeId} {s x r : AV} {H' : AH} (h : appA P t tx s x H = some (r, H')) {u v : Value} (hs : VR μ s u) (hx : VR μ x v) (ty : TypeId) :
    Does P w0 μ H' ((Builtin.append_ #[t, tx] ty #[u, v]).run P w) r := by
  unfold appA at h
  split at h
  · rename_i e ht
    have ht' := sliceT_desc ht
    split at h
    · rename_i sz by_ zl hsz hby hzl
      split at h
      · rename_i hzlen
        obtain ⟨i, hi, rfl⟩ := sizeT_info hsz
        obtain ⟨i2, hi2, rfl⟩ := bytesT_info hby
        rw [hi] at hi2; simp only [Option.some.injEq] at hi2; subst hi2
        obtain ⟨i3, z, hi3, hz, hzc⟩ := zeroT_info hzl
        rw [hi] at hi3; simp only [Option.some.injEq] at hi3; subst hi3
        have hzs : z.cells.size = i.size := by
          have := (cvL_sound (μ := μ) hzc).length
          simp at this; omega
        split at h
        · rename_i m news hnews
          obtain ⟨vs, hsrc, hnR, hn1⟩ := src_sound hR hnews hx
          split at h
          · rename_i hm0
            subst hm0
            have hv0 : vs = [] := by
              have := hsrc.newsLen
              simpa using this
            subst hv0
            split at h
            · rename_i hsl
              simp only [Option.some.injEq, Prod.mk.injEq] at h
              obtain ⟨rfl, rfl⟩ := h
              simp only [VR] at hs; subst hs
              have := run_append_nothing (P := P) w t tx ty e i ht' hi none 0 0 (Nat.le_refl _) v hsrc
              exact Does.same hR ⟨_, this, by simp only [VR]⟩
            · rename_i b o n
              simp only [Option.some.injEq, Prod.mk.injEq] at h
              obtain ⟨rfl, rfl⟩ := h
              have hs' := hs
              simp only [VR] at hs'
              obtain ⟨L, cap, a, h1, rfl, h2, h3⟩ := hs'
              have := run_append_nothing (P := P) w t tx ty e i ht' hi (some a) n cap h2 v hsrc
              exact Does.same hR ⟨_, this, hs⟩
            · simp at h
          · rename_i hm0
            split at h
            · split at h
              · rename_i hc
                simp only [Option.some.injEq, Prod.mk.injEq] at h
                obtain ⟨rfl, rfl⟩ := h
                simp only [VR] at hs; subst hs
                have := app_grow hR (ty := ty) ht' hi hz hzs (base := none) (n := 0) (cap := 0) (old := []) (olds := []) (run_firstCells_none w.drew i.size 0 0 0) (by simp [VRs]) rfl (by simp) hsrc hnR hn1 (by omega) (by simpa using hc.1) (by simpa using hc.2)
                simpa using this
              · simp at h
            · rename_i b o n
              split at h
              · rename_i e' xs hb
                split at h
                · rename_i hc
                  obtain ⟨rfl, hle, hcb, hcm⟩ := hc
                  simp only [Option.some.injEq, Prod.mk.injEq] at h
                  obtain ⟨rfl, rfl⟩ := h
                  simp only [VR] at hs
                  obtain ⟨L, cap, a, h1, rfl, h2, h3⟩ := hs
                  obtain ⟨L', cs, fz, e2, g1, g2, g3, g4, ⟨g5, g7⟩, g6⟩ := hR.blk b _ hb
                  rw [h1] at g1; simp only [Option.some.injEq] at g1; subst g1
                  rw [hi] at g6; simp only [Option.map_some, Option.some.injEq] at g6
                  obtain ⟨olds, k1, k2, k3⟩ := row_in hR hb h1 o (n * i.size) hle
                  have ko : ((xs.drop o).take (n * i.size)).all AV.one = true := by
                    have := g4.1
                    rw [List.all_eq_true] at this ⊢
                    exact fun x hx => this x (List.mem_of_mem_drop (List.mem_of_mem_take hx))
                  by_cases hroom : n + m ≤ cap
                  · obtain ⟨rfl, h4⟩ := h3 (by omega)
                    rw [← g6] at h4
                    have hnl := hsrc.newsLen
                    have hbd : L.base + o + n * i.size + vs.length ≤ cs.size := by
                      have : (n + m) * i.size ≤ cap * i.size := Nat.mul_le_mul_right _ hroom
                      rw [Nat.add_mul] at this
                      omega
                    have hrun := run_append_room_src (P := P) w t tx ty e' i ht' hi L.c (L.base + o) n cap v m vs hsrc hroom
                      (fun j hj => by rw [cell_of w _ _ g2]; simp; omega) (fun j hj => frozen_of w _ _ g2 g5 (by omega))
                    rw [hrun]
                    have eb : (Loc.mk L.c (L.base + o) L.n L.sz).base = L.base + o := rfl
                    refine ⟨_, _, muPush μ H.next ⟨L.c, L.base + o, L.n, L.sz⟩, rfl, hR.ext _, ?_, ?_⟩
                    · refine (hR.kill b).name (L := ⟨L.c, L.base + o, L.n, L.sz⟩) (below_sets L.c g7 _ _ _ hR.below) (fun k hk _ => heap_sets_ne L.c _ _ _ hk) ?_ ?_
                      · intro b' x' L2 hb' hx' hL2
                        rw [AH.kill_get] at hb'
                        split at hb'
                        · simp at hb'
                        · rename_i hne
                          exact hR.sep b _ hb rfl b' x' hne hb' hx' L L2 h1 hL2
                      · refine ⟨_, setsA cs (L.base + o + n * i.size) vs, fz, e2, muPush_self _ _ _, heap_sets L.c vs w _ g2, by rw [setsA_size]; exact g3, ⟨?_, ?_, ?_⟩, ⟨by rw [setsA_size]; exact g5, g7⟩, by rw [hi]; simp [g6]⟩
                        · simp only [List.all_append, ko, hn1, Bool.and_self]
                        · have e1 := k3.length
                          have e2 := hnR.length
                          rw [setsA_size, List.length_append]
                          omega
                        · intro j y hj
                          have hlen := k3.length
                          rw [List.getElem?_append] at hj
                          split at hj
                          · rename_i hj1
                            obtain ⟨q, hq1, hq2⟩ := k3.get j y hj
                            refine ⟨q, ?_, VR.mono (hR.ext _) _ _ hq2⟩
                            rw [setsA_lo _ _ _ _ (by omega)]
                            have := k2 j q hq1
                            rwa [cell_of w _ _ g2] at this
                          · rename_i hj1
                            obtain ⟨q, hq1, hq2⟩ := hnR.get _ y hj
                            refine ⟨q, ?_, VR.mono (hR.ext _) _ _ hq2⟩
                            have hjlt : j - ((xs.drop o).take (n * i.size)).length < vs.length := by
                              rcases Nat.lt_or_ge (j - ((xs.drop o).take (n * i.size)).length) vs.length with hh | hh
                              · exact hh
                              · rw [List.getElem?_eq_none hh] at hq1; simp at hq1
                            have := setsA_in vs cs (L.base + o + n * i.size) _ hbd hjlt
                            rw [← hq1, ← this]
                            congr 1; omega
                    · simp only [VR]
                      refine ⟨_, cap, _, muPush_self _ _ _, rfl, by omega, fun _ => ⟨by simp, ?_⟩⟩
                      simp only [← g6]; omega
                  · have hold : (Builtin.firstCells i.size n (.slice (some a) n cap)).run P w.drew = .ok olds.toArray w.drew := by
                      refine run_firstCells_some w.drew i.size n a n cap olds k1 fun j q hj => ?_
                      by_cases hcap : cap = 0
                      · have : n = 0 := by omega
                        subst this
                        simp at k1; subst k1; simp at hj
                      · obtain ⟨rfl, _⟩ := h3 hcap
                        rw [Addr.add_lit]
                        exact k2 j q hj
                    exact app_grow (hR.kill b) ht' hi hz hzs hold k3 ko k1 hsrc hnR hn1 (by omega) hcb hcm
                · simp at h
              · simp at h
            · simp at h
        · simp at h
      · simp at h
    · simp at h
  · simp at h

/-! append of so many zeros -/
structure SrcZ (P : Program) (i : TypeInfo) (z : Value) (t tx ty e : TypeId) (v : Value) (m : Nat) (vs : List Value) : Prop where
  nothing : m = 0 → ∀ (w : World) base n cap, n ≤ cap → (Builtin.append_ #[t, tx] ty #[.slice base n cap, v]).run P w = .ok (.slice base n cap) w
  room : m ≠ 0 → ∀ (w : World) b off sLen sCap, sLen + m ≤ sCap → (∀ j, j < vs.length → (w.cell? ⟨b, off + sLen * i.size + j, none⟩).isSome = true) → (∀ j, j < vs.length → w.frozen? ⟨b, off + sLen * i.size + j, none⟩ = false) →
    (Builtin.append_ #[t, tx] ty #[.slice (some ⟨b, off, none⟩) sLen sCap, v]).run P w = .ok (.slice (some ⟨b, off, none⟩) (sLen + m) sCap) (w.setCells b (off + sLen * i.size) vs)
  grow : m ≠ 0 → ∀ (w : World) base sLen sCap (olds : List Value), (Builtin.firstCells i.size sLen (.slice base sLen sCap)).run P w.drew = .ok olds.toArray w.drew → sCap < sLen + m → ((sLen + m : Nat) : Int) ≤ 9223372036854775807 →
    Builtin.nextslicecap (sLen + m) sCap * i.bytes ≤ 281474976710656 →
    (Builtin.append_ #[t, tx] ty #[.slice base sLen sCap, v]).run P w =
      .ok (.slice (some ⟨w.heap.size, 0, none⟩) (sLen + m) (grownCap w (sLen + m) sCap e))
        (w.drew.alloc (.cells ((olds ++ vs).toArray ++ Builtin.zeroCells z.cells (grownCap w (sLen + m) sCap e - (sLen + m))) e))
  newsLen : vs.length = m * i.size
theorem srcZ {t tx ty e : TypeId} {i : TypeInfo} {z : Value} {k : Int} {kd kd' : IntKind} (ht : P.underlying t = some (.slice e)) (hk : P.underlying tx = some (.int kd')) (hi : P.info? e = some i) (hz : i.zero = some z) (hzs : z.cells.size = i.size) (hone : ∀ u ∈ z.cells.toList, u.oneCell' = true) (h0 : 0 ≤ k) (h1 : k ≤ 70368744177664) (hb : k.toNat * i.bytes ≤ 70368744177664) :
    SrcZ P i z t tx ty e (.int kd k) k.toNat (Builtin.zeroCells z.cells k.toNat).toList := by
  have hw : IntKind.i64.wrap k = k := by rw [IntKind.wrap_i64]; omega
  have hneg : ¬ (k < 0) := by omega
  have hbig : ¬ (281474976710656 < k * i.bytes) := by
    have : k * i.bytes = ((k.toNat * i.bytes : Nat) : Int) := by rw [Int.natCast_mul, Int.toNat_of_nonneg h0]
    omega
  have hnl : (Builtin.zeroCells z.cells k.toNat).toList.length = k.toNat * i.size := by simp [zeroCells_size, hzs]
  have hm : ∀ u ∈ (Builtin.zeroCells z.cells k.toNat).toList, u.oneCell' = true := by
    intro u hu
    simp only [Builtin.zeroCells, Array.toList_map, List.mem_map] at hu
    obtain ⟨j, hj, rfl⟩ := hu
    simp at hj
    refine hone _ ?_
    have hp : 0 < z.cells.size := by
      rcases Nat.eq_zero_or_pos z.cells.size with h | h
      · rw [h] at hj; simp at hj
      · exact h
    have hlt : j % z.cells.size < z.cells.size := Nat.mod_lt _ hp
    rw [getElem!_pos z.cells _ hlt]
    exact Array.getElem_mem_toList hlt
  refine ⟨?_, ?_, ?_, hnl⟩
  · intro hm0 w base n cap hle
    have : k = 0 := by omega
    subst this
    cases base <;> simp [Builtin.append_, run_underlying ht, run_underlying hk, sizeOf, typeInfo, hi, asInt, asIntOf, hw, hle, storeCells]
  · intro hm0 w b off sLen sCap hroom hc hf
    have hst := run_storeCells_cells (P := P) b (off + sLen * i.size) (Builtin.zeroCells z.cells k.toNat).toList 0 w (by simpa using hc) (by simpa using hf) hm
    simp only [Nat.add_zero] at hst
    by_cases hsz : k.toNat * i.size = 0
    · have hnil : (Builtin.zeroCells z.cells k.toNat).toList = [] := List.eq_nil_of_length_eq_zero (by rw [hnl, hsz])
      rw [hnil] at hst ⊢
      simp [Builtin.append_, run_underlying ht, run_underlying hk, sizeOf, typeInfo, hi, asInt, asIntOf, hw, hneg, hbig, hroom, zeroValue, hz, Addr.add_lit, hsz, hst]
    · simp [Builtin.append_, run_underlying ht, run_underlying hk, sizeOf, typeInfo, hi, asInt, asIntOf, hw, hneg, hbig, hroom, zeroValue, hz, Addr.add_lit, hsz, hst]
  · intro hm0 w base sLen sCap olds hold hg h63 hfit
    have hn : ¬ (sLen + k.toNat ≤ sCap) := by omega
    have h63' : ¬ (9223372036854775807 < ((sLen : Int) + max k 0)) := by omega
    have h48' : ¬ (281474976710656 < Builtin.nextslicecap (sLen + k.toNat) sCap * i.bytes) := by omega
    by_cases hsz : k.toNat * i.size = 0
    · have hnil : (Builtin.zeroCells z.cells k.toNat).toList = [] := List.eq_nil_of_length_eq_zero (by rw [hnl, hsz])
      rw [hnil]
      simp [Builtin.append_, run_underlying ht, run_underlying hk, sizeOf, typeInfo, zeroValue, hi, hz, asInt, asIntOf, hw, hneg, hbig, hn, h63', h48', hsz, Question.forced, hold, newRow, grownCap]
    · simp [Builtin.append_, run_underlying ht, run_underlying hk, sizeOf, typeInfo, zeroValue, hi, hz, asInt, asIntOf, hw, hneg, hbig, hn, h63', h48', hsz, Question.forced, hold, newRow, grownCap]
      congr 2
      apply Array.ext'
      simp [List.append_assoc]
theorem appZ_grow (hR : Rel P w0 H μ w) {t tx ty e : TypeId} {i : TypeInfo} {z : Value} (ht : P.underlying t = some (.slice e)) (hi : P.info? e = some i) (hz : i.zero = some z) (hzs : z.cells.size = i.size)
    {base : Option Addr} {n cap m : Nat} {old news : List AV} {olds vs : List Value} (hold : (Builtin.firstCells i.size n (.slice base n cap)).run P w.drew = .ok olds.toArray w.drew) (hoR : VRs μ old olds) (ho1 : old.all AV.one = true) (hol : olds.length = n * i.size)
    {v : Value} (hs : SrcZ P i z t tx ty e v m vs) (hm0 : m ≠ 0) (hnR : VRs μ news vs) (hn1 : news.all AV.one = true) (hg : cap < n + m)
    (hb : (n + m) * i.bytes ≤ 70368744177664) (hm : n + m ≤ 70368744177664) :
    Does P w0 μ (H.push (.cells e false (old ++ news))) ((Builtin.append_ #[t, tx] ty #[.slice base n cap, v]).run P w) (.slice H.next 0 (n + m)) := by
  rw [hs.grow hm0 w base n cap olds hold hg (by omega) (growslice_fits hg (by omega))]
  have hle : n + m ≤ grownCap w (n + m) cap e := by
    simp [grownCap, Question.cut]
  have hsz : ((olds ++ vs).toArray ++ Builtin.zeroCells z.cells (grownCap w (n + m) cap e - (n + m))).size = grownCap w (n + m) cap e * i.size := by
    simp only [Array.size_append, List.size_toArray, List.length_append, zeroCells_size, hzs, hol, hs.newsLen]
    rw [← Nat.add_mul, ← Nat.add_mul]; congr 1; omega
  have hap := hoR.append hnR
  refine push_slice (hR.drew) (sz := i.size) (by simp [sizeT, hi]) ?_ hle (by rw [hsz]; exact Nat.le_refl _)
  refine ⟨by simp only [List.all_append, ho1, hn1, Bool.and_self], by rw [hsz, Nat.zero_add, hap.length, List.length_append, hol, hs.newsLen, ← Nat.add_mul]; exact Nat.mul_le_mul_right _ hle, fun j a ha => ?_⟩
  obtain ⟨u, h1, h2⟩ := hap.get j a ha
  refine ⟨u, ?_, h2⟩
  have hj : j < (olds ++ vs).length := by
    rcases Nat.lt_or_ge j (olds ++ vs).length with hj | hj
    · exact hj
    · rw [List.getElem?_eq_none hj] at h1; simp at h1
  rw [Nat.zero_add, Array.getElem?_append_left (by simpa using hj)]
  simpa using h1

theorem appZ_sound (hR : Rel P w0 H μ w) {t tx : TypeId} {s x r : AV} {H' : AH} (hI : isIntT P tx = true) (h : appZ P t s x H = some (r, H')) {u v : Value} (hs : VR μ s u) (hx : VR μ x v) (ty : TypeId) :
    Does P w0 μ H' ((Builtin.append_ #[t, tx] ty #[u, v]).run P w) r := by
  unfold appZ at h
  obtain ⟨kd', hkd⟩ : ∃ kd', P.underlying tx = some (.int kd') := by
    unfold isIntT at hI
    split at hI
    · rename_i k hk; exact ⟨k, hk⟩
    · simp at hI
  split at h
  · rename_i e kd k ht
    have ht' := sliceT_desc ht
    split at h
    · rename_i sz by_ zl hsz hby hzl
      split at h
      · rename_i hzc0
        obtain ⟨hzlen, hk0, hk1⟩ := hzc0
        obtain ⟨i, hi, rfl⟩ := sizeT_info hsz
        obtain ⟨i2, hi2, rfl⟩ := bytesT_info hby
        rw [hi] at hi2; simp only [Option.some.injEq] at hi2; subst hi2
        obtain ⟨i3, z, hi3, hz, hzc⟩ := zeroT_info hzl
        rw [hi] at hi3; simp only [Option.some.injEq] at hi3; subst hi3
        have hzs : z.cells.size = i.size := by
          have := (cvL_sound (μ := μ) hzc).length
          simp at this; omega
        simp only [VR] at hx
        subst hx
        have hzR := cvL_sound (μ := μ) hzc
        have hzone : zl.all AV.one = true := cvL_one hzc
        have hn1 := zerosA_one hzone k.toNat
        have hzc1 : ∀ q ∈ z.cells.toList, q.oneCell' = true := one_of hzR hzone
        have hmk : k.toNat * z.cells.size = k.toNat * zl.length := by rw [hzs, hzlen]
        have hnR : VRs μ (zerosA zl k.toNat) (Builtin.zeroCells z.cells k.toNat).toList := made_sound hzR k.toNat (k.toNat * z.cells.size) hmk
        have hkb : ∀ {n : Nat}, (n + k.toNat) * i.bytes ≤ 70368744177664 → k.toNat * i.bytes ≤ 70368744177664 := fun {n} h => by rw [Nat.add_mul] at h; omega
        have hsrcF := fun hb => srcZ (P := P) (t := t) (tx := tx) (ty := ty) (e := e) (kd := kd) ht' hkd hi hz hzs hzc1 hk0 hk1 hb
        · split at h
          · rename_i hm0
            have hsrc := hsrcF (by rw [hm0]; simp)
            split at h
            · rename_i hsl
              simp only [Option.some.injEq, Prod.mk.injEq] at h
              obtain ⟨rfl, rfl⟩ := h
              simp only [VR] at hs; subst hs
              have := hsrc.nothing hm0 w none 0 0 (Nat.le_refl _)
              exact Does.same hR ⟨_, this, by simp only [VR]⟩
            · rename_i b o n
              simp only [Option.some.injEq, Prod.mk.injEq] at h
              obtain ⟨rfl, rfl⟩ := h
              have hs' := hs
              simp only [VR] at hs'
              obtain ⟨L, cap, a, h1, rfl, h2, h3⟩ := hs'
              have := hsrc.nothing hm0 w (some a) n cap h2
              exact Does.same hR ⟨_, this, hs⟩
            · simp at h
          · rename_i hm0
            split at h
            · split at h
              · rename_i hc
                simp only [Option.some.injEq, Prod.mk.injEq] at h
                obtain ⟨rfl, rfl⟩ := h
                simp only [VR] at hs; subst hs
                have hsrc := hsrcF hc
                have := appZ_grow hR (ty := ty) ht' hi hz hzs (base := none) (n := 0) (cap := 0) (old := []) (olds := []) (run_firstCells_none w.drew i.size 0 0 0) (by simp [VRs]) rfl (by simp) hsrc hm0 hnR hn1 (by omega) (by simpa using hc) (by omega)
                simpa using this
              · simp at h
            · rename_i b o n
              split at h
              · rename_i e' xs hb
                split at h
                · rename_i hc
                  obtain ⟨rfl, hle, hcb, hcm⟩ := hc
                  have hsrc := hsrcF (hkb hcb)
                  generalize hvs : (Builtin.zeroCells z.cells k.toNat).toList = vs at *
                  generalize hmm : k.toNat = m at *
                  simp only [Option.some.injEq, Prod.mk.injEq] at h
                  obtain ⟨rfl, rfl⟩ := h
                  simp only [VR] at hs
                  obtain ⟨L, cap, a, h1, rfl, h2, h3⟩ := hs
                  obtain ⟨L', cs, fz, e2, g1, g2, g3, g4, ⟨g5, g7⟩, g6⟩ := hR.blk b _ hb
                  rw [h1] at g1; simp only [Option.some.injEq] at g1; subst g1
                  rw [hi] at g6; simp only [Option.map_some, Option.some.injEq] at g6
                  obtain ⟨olds, k1, k2, k3⟩ := row_in hR hb h1 o (n * i.size) hle
                  have ko : ((xs.drop o).take (n * i.size)).all AV.one = true := by
                    have := g4.1
                    rw [List.all_eq_true] at this ⊢
                    exact fun x hx => this x (List.mem_of_mem_drop (List.mem_of_mem_take hx))
                  by_cases hroom : n + m ≤ cap
                  · obtain ⟨rfl, h4⟩ := h3 (by omega)
                    rw [← g6] at h4
                    have hnl := hsrc.newsLen
                    have hbd : L.base + o + n * i.size + vs.length ≤ cs.size := by
                      have : (n + m) * i.size ≤ cap * i.size := Nat.mul_le_mul_right _ hroom
                      rw [Nat.add_mul] at this
                      omega
                    have hrun := hsrc.room hm0 w L.c (L.base + o) n cap hroom
                      (fun j hj => by rw [cell_of w _ _ g2]; simp; omega) (fun j hj => frozen_of w _ _ g2 g5 (by omega))
                    rw [hrun]
                    have eb : (Loc.mk L.c (L.base + o) L.n L.sz).base = L.base + o := rfl
                    refine ⟨_, _, muPush μ H.next ⟨L.c, L.base + o, L.n, L.sz⟩, rfl, hR.ext _, ?_, ?_⟩
                    · refine (hR.kill b).name (L := ⟨L.c, L.base + o, L.n, L.sz⟩) (below_sets L.c g7 _ _ _ hR.below) (fun k hk _ => heap_sets_ne L.c _ _ _ hk) ?_ ?_
                      · intro b' x' L2 hb' hx' hL2
                        rw [AH.kill_get] at hb'
                        split at hb'
                        · simp at hb'
                        · rename_i hne
                          exact hR.sep b _ hb rfl b' x' hne hb' hx' L L2 h1 hL2
                      · refine ⟨_, setsA cs (L.base + o + n * i.size) vs, fz, e2, muPush_self _ _ _, heap_sets L.c vs w _ g2, by rw [setsA_size]; exact g3, ⟨?_, ?_, ?_⟩, ⟨by rw [setsA_size]; exact g5, g7⟩, by rw [hi]; simp [g6]⟩
                        · simp only [List.all_append, ko, hn1, Bool.and_self]
                        · have e1 := k3.length
                          have e2 := hnR.length
                          rw [setsA_size, List.length_append]
                          omega
                        · intro j y hj
                          have hlen := k3.length
                          rw [List.getElem?_append] at hj
                          split at hj
                          · rename_i hj1
                            obtain ⟨q, hq1, hq2⟩ := k3.get j y hj
                            refine ⟨q, ?_, VR.mono (hR.ext _) _ _ hq2⟩
                            rw [setsA_lo _ _ _ _ (by omega)]
                            have := k2 j q hq1
                            rwa [cell_of w _ _ g2] at this
                          · rename_i hj1
                            obtain ⟨q, hq1, hq2⟩ := hnR.get _ y hj
                            refine ⟨q, ?_, VR.mono (hR.ext _) _ _ hq2⟩
                            have hjlt : j - ((xs.drop o).take (n * i.size)).length < vs.length := by
                              rcases Nat.lt_or_ge (j - ((xs.drop o).take (n * i.size)).length) vs.length with hh | hh
                              · exact hh
                              · rw [List.getElem?_eq_none hh] at hq1; simp at hq1
                            have := setsA_in vs cs (L.base + o + n * i.size) _ hbd hjlt
                            rw [← hq1, ← this]
                            congr 1; omega
                    · simp only [VR]
                      refine ⟨_, cap, _, muPush_self _ _ _, rfl, by omega, fun _ => ⟨by simp, ?_⟩⟩
                      simp only [← g6]; omega
                  · have hold : (Builtin.firstCells i.size n (.slice (some a) n cap)).run P w.drew = .ok olds.toArray w.drew := by
                      refine run_firstCells_some w.drew i.size n a n cap olds k1 fun j q hj => ?_
                      by_cases hcap : cap = 0
                      · have : n = 0 := by omega
                        subst this
                        simp at k1; subst k1; simp at hj
                      · obtain ⟨rfl, _⟩ := h3 hcap
                        rw [Addr.add_lit]
                        exact k2 j q hj
                    exact appZ_grow (hR.kill b) ht' hi hz hzs hold k3 ko k1 hsrc hm0 hnR hn1 (by omega) hcb hcm
                · simp at h
              · simp at h
            · simp at h
      · simp at h
    · simp at h
  · simp at h
end
end Go.Ev

/- The evaluator's conversions, copies and one operation of the machine. -/
namespace Go.Ev
open Go Go.RowKit
set_option linter.unusedSimpArgs false
set_option linter.unusedVariables false

section
variable {P : Program} {w0 : World} {H : AH} {μ : Mu} {w : World}

theorem u8s_R {μ : Mu} : ∀ {l : List AV} {ns : List Int} {vs : List Value}, u8s l = some ns → VRs μ l vs → vs = ns.map (Value.int .u8)
  | [], ns, vs, h, hv => by simp [u8s] at h; subst h; simp only [VRs] at hv; subst hv; rfl
  | a :: l, ns, vs, h, hv => by
    simp only [VRs] at hv
    obtain ⟨u, us, rfl, ha, hus⟩ := hv
    unfold u8s at h
    split at h
    · rename_i e; simp at e
    · rename_i n l' e
      simp only [List.cons.injEq] at e
      obtain ⟨rfl, rfl⟩ := e
      simp only [Option.map_eq_some_iff] at h
      obtain ⟨ns', h1, rfl⟩ := h
      simp only [VR] at ha; subst ha
      rw [u8s_R h1 hus]; rfl
    · simp at h

theorem convA_sound (hR : Rel P w0 H μ w) {src dst : TypeId} {x r : AV} {H' : AH} (h : convA P src dst x H = some (r, H')) {u : Value} (hx : VR μ x u) : Does P w0 μ H' ((convert src dst u).run P w) r := by
  unfold convA at h
  split at h
  · rename_i d k k' n hs hd
    simp only [Option.some.injEq, Prod.mk.injEq] at h
    obtain ⟨rfl, rfl⟩ := h
    simp only [VR] at hx; subst hx
    exact Does.same hR ⟨_, by simp [convert, run_underlying hs, run_underlying hd, Conv.intToInt]; rfl, by simp only [VR]⟩
  · rename_i d s hs hd
    simp only [Option.some.injEq, Prod.mk.injEq] at h
    obtain ⟨rfl, rfl⟩ := h
    simp only [VR] at hx; subst hx
    refine Does.same hR ⟨.string s, ?_, by simp only [VR]⟩
    cases d <;> simp [convert, run_underlying hs, run_underlying hd]
  · rename_i e hs hd hne
    split at h
    · rename_i he
      split at h
      · rename_i cs hcs
        split at h
        · rename_i ns hns
          simp only [Option.some.injEq, Prod.mk.injEq] at h
          obtain ⟨rfl, rfl⟩ := h
          unfold rowOf at hcs
          split at hcs
          · simp only [Option.some.injEq] at hcs; subst hcs
            simp [u8s] at hns; subst hns
            simp only [VR] at hx; subst hx
            exact Does.same hR ⟨.string .empty, by simp [convert, run_underlying hs, run_underlying hd, run_underlying he, Conv.bytesToString], by simp [VR, strOf]⟩
          · rename_i b o n
            have hcs' : rowOf 1 H (.slice b o n) = some cs := hcs
            cases hb : H.get b with
            | none => simp [hb] at hcs
            | some y =>
              cases y with
              | map q => simp [hb] at hcs
              | cells e' ro xs =>
                simp only [VR] at hx
                obtain ⟨L, cap, a, h1, rfl, h2, h3⟩ := hx
                obtain ⟨vs, k1, k2, k3, k4⟩ := rowOf_sound hR hcs' hb h1
                have hvs := u8s_R hns k3
                simp only [Nat.mul_one] at k1
                have hld : (loadCells a n).run P w = .ok (ns.map (Value.int .u8)).toArray w := by
                  by_cases hcap : cap = 0
                  · have hn0 : n = 0 := by omega
                    subst hn0
                    have : vs = [] := by simpa using k1
                    rw [← hvs, this]; rfl
                  · obtain ⟨rfl, _⟩ := h3 hcap
                    have := run_loadCells_list (P := P) w ⟨L.c, L.base + o, none⟩ vs (fun j v hj => by rw [Addr.add_lit]; exact k2 j v hj)
                    rw [k1, hvs] at this; exact this
                have hrun := run_bytesToString (P := P) w a n cap ns hld
                refine Does.same hR ⟨.string (strOf ns), ?_, by simp only [VR]⟩
                simp only [convert, Sem.run_bind, run_underlying hs, run_underlying hd, run_underlying he, Result.andThen_ok]
                exact hrun
          · simp at hcs
        · simp at h
      · simp at h
    · simp at h
  · rename_i e s hs hd
    split at h
    · rename_i he hsz
      simp only [Option.some.injEq, Prod.mk.injEq] at h
      obtain ⟨rfl, rfl⟩ := h
      simp only [VR] at hx; subst hx
      have hcapf : (Question.appendCap s.size 0 e).forced = false := rfl
      let cap := (Question.appendCap s.size 0 e).cut (w.tape w.drawn (.appendCap s.size 0 e))
      have hcap : s.size ≤ cap := by simp [cap, Question.cut]
      let cells : Array Value := s.data.map (fun b => Value.int .u8 b.toNat) ++ Array.replicate (cap - s.size) (.int .u8 0)
      have hcs : cells.size = cap := by
        simp [cells]
        have : s.data.size = s.size := rfl
        omega
      have hrun : (convert src dst (.string s)).run P w = .ok (.slice (some ⟨w.heap.size, 0, none⟩) s.size cap) ((w.drew.alloc (.cells cells e)).freeze ⟨w.heap.size, cells.size, none⟩ 1) := by
        simp only [convert, Sem.run_bind, run_underlying hs, run_underlying hd, run_underlying he, Result.andThen_ok, Conv.stringToBytes, run_choose, hcapf, newRow, run_newObj]
        have hsh : (w.drew.alloc (.cells cells e)).shape? w.heap.size = some (e, cells.size) := by
          have := heap_alloc_new w.drew (.cells cells e)
          simp only [World.size_drew] at this
          unfold World.shape?; rw [this]
        simp [markStringish]
        simp only [cells, cap] at hsh
        simp [hsh, cells, cap]
      rw [hrun]
      have hrow : RowR μ (bytesC s) cells 0 := by
        refine ⟨bytesC_one s, by rw [bytesC_length, hcs]; omega, fun i a ha => ?_⟩
        obtain ⟨v, h1, h2⟩ := (bytesC_R (μ := μ) s).get i a ha
        refine ⟨v, ?_, h2⟩
        have hi : i < s.data.size := by
          rcases Nat.lt_or_ge i s.data.size with hh | hh
          · exact hh
          · rw [List.getElem?_eq_none (by simp [byteCells]; exact hh)] at h1; simp at h1
        rw [Nat.zero_add, Array.getElem?_append_left (by simpa using hi)]
        rw [← h1, ← Array.getElem?_toList]
        simp [byteCells]
      have hp := hR.drew.push (e := e) hrow (by rw [← hsz]; rfl)
      have hfz : ∀ k, k ≠ w.heap.size → ((w.drew.alloc (.cells cells e)).freeze ⟨w.heap.size, cells.size, none⟩ 1).heap[k]? = (w.drew.alloc (.cells cells e)).heap[k]? := by
        intro k hk
        simp only [World.freeze]
        rw [if_neg (by simp), Array.getElem?_modify]
        rw [if_neg (by omega)]
      have hnew : ((w.drew.alloc (.cells cells e)).freeze ⟨w.heap.size, cells.size, none⟩ 1).heap[w.heap.size]? = some (.cells cells e (cells.size, cells.size + 1)) := by
        simp only [World.freeze]
        rw [if_neg (by simp), Array.getElem?_modify, if_pos rfl]
        have := heap_alloc_new w.drew (.cells cells e)
        simp only [World.size_drew] at this
        rw [this]; simp
      refine ⟨_, _, muPush μ H.next ⟨w.heap.size, 0, cells.size, 1⟩, rfl, hR.ext _, ?_, ?_⟩
      · refine hR.name (L := ⟨w.heap.size, 0, cells.size, 1⟩) ?_ ?_ (fun b x L' hb hx hL' => Nat.ne_of_lt (hR.lt hb hx hL')) ?_
        · have hB := hp.below
          exact ⟨hB.os, hB.tape, hB.output, by simpa [World.freeze] using hB.size, fun k hk => by
            rw [hfz k (by have := hR.below.size; omega)]; exact hB.block k hk⟩
        · intro k hk hlt
          rw [hfz k hk, heap_alloc_old w.drew _ hlt]; rfl
        · refine ⟨_, cells, _, e, muPush_self _ _ _, hnew, rfl, by simpa using hrow.mono (hR.ext _), ⟨?_, hR.below.size⟩, ?_⟩
          · exact .inr (Nat.le_refl _)
          · unfold sizeT at hsz; exact hsz
      · simp only [VR]
        exact ⟨_, cap, _, muPush_self _ _ _, rfl, hcap, fun _ => ⟨by simp, by simp [hcs]⟩⟩
    · simp at h
  · rename_i e0 e b o n hs hd
    split at h
    · rename_i e' xs he hb
      split at h
      · rename_i hc
        obtain ⟨rfl, hn0⟩ := hc
        simp only [Option.some.injEq, Prod.mk.injEq] at h
        obtain ⟨rfl, rfl⟩ := h
        have hee : e0 = e := by rw [hs] at hd; simpa using hd
        subst hee
        have hx' := hx
        simp only [VR] at hx
        obtain ⟨L, cap, a, h1, rfl, h2, h3⟩ := hx
        obtain ⟨rfl, h4⟩ := h3 (by omega)
        obtain ⟨L', cs, fz, e2, hL', hheap, hnn, hrow, ⟨hfz, hge⟩, hsz⟩ := hR.blk b _ hb
        rw [h1] at hL'; simp only [Option.some.injEq] at hL'; subst hL'
        have hsh : w.shape? L.c = some (e2, cs.size) := by unfold World.shape?; rw [hheap]
        have hrun : (convert src src (.slice (some ⟨L.c, L.base + o, none⟩) n cap)).run P w = .ok (.slice (some ⟨L.c, L.base + o, none⟩) n cap) (w.freeze ⟨L.c, cs.size, none⟩ 1) := by
          simp only [convert, Sem.run_bind, run_underlying hs, run_underlying he, Result.andThen_ok]
          simp [markStringish, hsh]
        have hne : ∀ k, k ≠ L.c → (w.freeze ⟨L.c, cs.size, none⟩ 1).heap[k]? = w.heap[k]? := by
          intro k hk
          simp only [World.freeze]
          rw [if_neg (by simp), Array.getElem?_modify, if_neg (by omega)]
        have hself : (w.freeze ⟨L.c, cs.size, none⟩ 1).heap[L.c]? = some (.cells cs e2 (if fz.1 == fz.2 then (cs.size, cs.size + 1) else (min fz.1 cs.size, max fz.2 (cs.size + 1)))) := by
          simp only [World.freeze]
          rw [if_neg (by simp), Array.getElem?_modify, if_pos rfl, hheap]
          rfl
        rw [hrun]
        have hB := hR.below
        have hR2 := hR.change hb rfl h1 (w' := w.freeze ⟨L.c, cs.size, none⟩ 1) (y := .cells e' false xs)
          ⟨hB.os, hB.tape, hB.output, by simpa [World.freeze] using hB.size, fun k hk => by rw [hne k (by omega)]; exact hB.block k hk⟩ (fun k hk _ => hne k hk)
          ⟨L, cs, _, e2, h1, hself, hnn, hrow, ⟨by
            by_cases hf : fz.1 = fz.2
            · simp only [hf, beq_self_eq_true, if_true]; exact .inr (Nat.le_refl _)
            · have : (fz.1 == fz.2) = false := by simpa using hf
              simp only [this]
              rcases hfz with hfz | hfz
              · exact absurd hfz hf
              · exact .inr (by simp; omega), hge⟩, hsz⟩
        rw [AH.set_same H b _ hb] at hR2
        exact ⟨_, _, μ, rfl, Ext.refl _, hR2, hx'⟩
      · simp at h
    · simp at h
  · simp at h
end
end Go.Ev

/- One operation of the evaluator. -/
namespace Go.Ev
open Go Go.RowKit
set_option linter.unusedSimpArgs false
set_option linter.unusedVariables false

/-- is this the key? (integers of one kind, strings, bools) -/
def sameK : AV → AV → Option Bool
  | .int k a, .int k' b => if k = k' then some (a == b) else none
  | .str a, .str b => some (a == b)
  | .bool a, .bool b => some (a == b)
  | _, _ => none
/-- a key's place -/
def findA (k : AV) : List (AV × AV) → Nat → Option (Option (Nat × AV))
  | [], _ => some none
  | (x, v) :: l, i => match sameK k x with
    | some true => some (some (i, v))
    | some false => findA k l (i + 1)
    | none => none
def keyOk (d : TypeDesc) (k : AV) : Bool := match d, k with
  | .int _, .int _ _ => true
  | .string, .str _ => true
  | .bool, .bool _ => true
  | _, _ => false
section
variable (P : Program)
/-- a map's key type (of plain keys) and element type -/
def mapT (t : TypeId) (k : AV) : Option (TypeId × TypeId) := match P.underlying t with
  | some (.map kt et) => match P.underlying kt with
    | some d => if keyOk d k then some (kt, et) else none
    | none => none
  | _ => none
def mapPut (l : List (AV × AV)) (k v : AV) : Option (List (AV × AV)) := match findA k l 0 with
  | some (some (i, _)) => some (l.set i (k, v))
  | some none => some (l ++ [(k, v)])
  | none => none
def updA (t : TypeId) (m k v : AV) (H : AH) : Option AH := match mapT P t k, m with
  | some _, .map b => match H.get b with
    | some (.map l) => (mapPut l k v).map fun l' => H.set b (.map l')
    | _ => none
  | _, _ => none
def lookA (t : TypeId) (m k : AV) (H : AH) (ok : Bool) : Option AV := match mapT P t k with
  | some (_, et) =>
    let l : Option (List (AV × AV)) := match m with
      | .nilMap => some []
      | .map b => match H.get b with
        | some (.map l) => some l
        | _ => none
      | _ => none
    match l with
    | some l => match findA k l 0 with
      | some (some (_, v)) => some (if ok then .tuple [v, .bool true] else v)
      | some none => match zeroV P et with
        | some z => some (if ok then .tuple [z, .bool false] else z)
        | none => none
      | none => none
    | none => none
  | none => none
def delA (t : TypeId) (m k : AV) (H : AH) : Option AH := match mapT P t k, m with
  | some _, .nilMap => some H
  | some _, .map b => match H.get b with
    | some (.map l) => match findA k l 0 with
      | some (some (i, _)) => some (H.set b (.map (l.eraseIdx i)))
      | some none => some H
      | none => none
    | _ => none
  | _, _ => none

def builtA (b : Builtin) (ats : List TypeId) (xs : List AV) (H : AH) : Option (AV × AH) := match b, ats, xs with
  | .len, [t], [x] => (lenA P t x H).map fun r => (r, H)
  | .append, [t, tx], [s, x] => if isIntT P tx = true then appZ P t s x H else appA P t tx s x H
  | .min, _, x :: l => (foldA mn2 x l).map fun r => (r, H)
  | .max, _, x :: l => (foldA mx2 x l).map fun r => (r, H)
  | .delete, t :: _, [m, k] => (delA P t m k H).map fun H' => (U, H')
  | _, _, _ => none

def evOp (op : Op) (τ : Tm) (H : AH) : Option (AV × AH) := match op with
  | .move x => (opnd τ x).map fun r => (r, H)
  | .assign x => (opnd τ x).map fun r => (r, H)
  | .pick c a b => match opnd τ c with
    | some (.bool q) => (if q then opnd τ a else opnd τ b).map fun r => (r, H)
    | _ => none
  | .alloc e => match zeroT P e, sizeT P e with
    | some z, some _ => some (.ptr H.next 0, H.push (.cells e false z))
    | _, _ => none
  | .box e x => match opnd τ x, sizeT P e with
    | some v, some _ => if v.cells.all AV.one then some (.ptr H.next 0, H.push (.cells e false v.cells)) else none
    | _, _ => none
  | .build t parts => match opndP τ parts.toList, zeroT P t with
    | some ps, some z => match placesT P t with
      | some pl => (fillA (fun i => pl[i]?) z ps).map fun r => (.agg r, H)
      | none => match arrT P t with
        | some (_, e) => match sizeT P e with
          | some sz => (fillA (fun i => some (i * sz, sz)) z ps).map fun r => (.agg r, H)
          | none => none
        | none => none
    | _, _ => none
  | .buildSlice t len parts => match opndP τ parts.toList, sliceT P t with
    | some ps, some e => match sizeT P e, zeroT P e with
      | some sz, some z => if z.length = sz ∧ len * sz ≤ 16777216 then match fillA (fun i => some (i * sz, sz)) (zerosA z len) ps with
          | some r => if r.all AV.one then some (.slice H.next 0 len, H.push (.cells e false r)) else none
          | none => none
        else none
      | _, _ => none
    | _, _ => none
  | .load t a => match opnd τ a with
    | some (.ptr b o) => (ldVar P t b o H).map fun r => (r, H)
    | _ => none
  | .store t a x => match opnd τ a, opnd τ x with
    | some (.ptr b o), some v => (stVar P t b o v H).map fun H' => (U, H')
    | _, _ => none
  | .nilCheck x => match opnd τ x with
    | some (.ptr b o) => some (.ptr b o, H)
    | some (.func f fs l) => some (.func f fs l, H)
    | some (.iface t v) => some (.iface t v, H)
    | _ => none
  | .binOp op t x y _ => match opnd τ x, opnd τ y with
    | some a, some b => (binA P (isC x || isC y) op t a b).map fun r => (r, H)
    | _, _ => none
  | .unOp op _ x => match opnd τ x with
    | some a => (unA op a).map fun r => (r, H)
    | none => none
  | .convert s d x => match opnd τ x with
    | some a => convA P s d a H
    | none => none
  | .makeInterface t x => match P.underlying t, opnd τ x with
    | some (.interface _), _ => none
    | some _, some a => some (.iface t a, H)
    | _, _ => none
  | .makeFunc (.func f) first captured => match opndL τ first.toList, opndL τ captured.toList with
    | some a, some b => some (.func f a b, H)
    | _, _ => none
  | .makeMap _ none => some (.map H.next, H.push (.map []))
  | .makeSlice t l c => match opnd τ l, opnd τ c, sliceT P t with
    | some (.int _ l), some (.int _ c), some e => match sizeT P e, bytesT P e, zeroT P e with
      | some sz, some by_, some z => if z.length = sz ∧ 0 ≤ l ∧ l ≤ c ∧ (by_ : Int) * c ≤ 281474976710656 ∧ c ≤ 281474976710656 then
          some (.slice H.next 0 l.toNat, H.push (.cells e false (zerosA z c.toNat))) else none
      | _, _, _ => none
    | _, _, _ => none
  | .slice t x lo hi none => match opnd τ x, opndO τ lo, opndO τ hi with
    | some a, some l, some h => (cutA P t a (some l) (some h) H).map fun r => (r, H)
    | _, _, _ => none
  | .fieldAddr s x f => match opnd τ x, fieldT P s f with
    | some (.ptr b o), some (off, ft) => match sizeT P ft with
      | some n => if n ≠ 0 then some (.ptr b (o + off), H) else none
      | none => none
    | _, _ => none
  | .field s x f => match opnd τ x, fieldT P s f with
    | some (.agg l), some (off, ft) => (partA P ft l off).map fun r => (r, H)
    | _, _ => none
  | .indexAddr t x i => match opnd τ x, opnd τ i with
    | some a, some b => (idxA P t a b).map fun r => (r, H)
    | _, _ => none
  | .index t x i => match opnd τ x, opnd τ i with
    | some a, some b => (indexA P t a b).map fun r => (r, H)
    | _, _ => none
  | .extract x i => match opnd τ x with
    | some (.tuple l) => (l[i]?).map fun r => (r, H)
    | _ => none
  | .lookup t m k ok => match opnd τ m, opnd τ k with
    | some a, some b => (lookA P t a b H ok).map fun r => (r, H)
    | _, _ => none
  | .mapUpdate t m k v => match opnd τ m, opnd τ k, opnd τ v with
    | some a, some b, some c => (updA P t a b c H).map fun H' => (U, H')
    | _, _, _ => none
  | .insert t m k v => match opnd τ m, opnd τ k, opnd τ v with
    | some a, some b, some c => (updA P t a b c H).map fun H' => (U, H')
    | _, _, _ => none
  | .call c => match c.callee with
    | .builtin b => match opndL τ c.args.toList with
      | some xs => builtA P b c.argTypes.toList xs H
      | none => none
    | _ => none
  | _ => none
end

def okOp (n : Nat) (op : Op) : Bool := op.operands.toList.all (okO n)

/-- What one operation that calls no function does. -/
def Does1 (P : Program) (w0 : World) (μ : Mu) (H' : AH) (r : Result Next) (a : AV) : Prop :=
  ∃ u w' μ', (r = .ok (.value u) w' ∨ (u = undef ∧ r = .ok .skip w')) ∧ Ext μ μ' ∧ Rel P w0 H' μ' w' ∧ VR μ' a u

section
variable {P : Program} {w0 : World} {H : AH} {μ : Mu} {w : World}

theorem Does1.of {s : Sem Value} {H' : AH} {a : AV} (h : Does P w0 μ H' (s.run P w) a) : Does1 P w0 μ H' ((do pure (.value (← s)) : Sem Next).run P w) a := by
  obtain ⟨u, w', μ', h1, h2⟩ := h
  exact ⟨u, w', μ', .inl (by simp [h1]), h2⟩
theorem Does1.val (hR : Rel P w0 H μ w) {a : AV} {v : Value} (h : VR μ a v) : Does1 P w0 μ H ((pure (.value v) : Sem Next).run P w) a :=
  ⟨v, w, μ, .inl rfl, Ext.refl _, hR, h⟩
theorem Does1.unit {s : Sem Unit} {H' : AH} {w' : World} {μ' : Mu} (h : s.run P w = .ok () w') (hx : Ext μ μ') (hR : Rel P w0 H' μ' w') : Does1 P w0 μ H' ((do s; pure .skip : Sem Next).run P w) U :=
  ⟨undef, w', μ', .inr ⟨rfl, by simp [h]⟩, hx, hR, by simp only [U, VR]; exact ⟨#[], rfl, by simp [VRs]⟩⟩

end
end Go.Ev

/- The evaluator's maps are the machine's. -/
namespace Go.Ev
open Go Go.RowKit
set_option linter.unusedSimpArgs false
set_option linter.unusedVariables false

section
variable {P : Program} {w0 : World} {H : AH} {μ : Mu} {w : World}

theorem sameK_sound {d : TypeDesc} {x y : AV} {q : Bool} (hk : keyOk d x = true) (h : sameK x y = some q) {u v : Value} (hx : VR μ x u) (hy : VR μ y v) : Instr.sameNow d u v = some q := by
  unfold sameK at h
  split at h
  · simp only [VR] at hx hy; subst hx; subst hy
    cases d <;> simp [keyOk] at hk
    split at h <;> simp at h
    rename_i hkk
    subst h
    simp [Instr.sameNow, hkk]
  · simp only [VR] at hx hy; subst hx; subst hy
    cases d <;> simp [keyOk] at hk
    simpa [Instr.sameNow] using h
  · simp only [VR] at hx hy; subst hx; subst hy
    cases d <;> simp [keyOk] at hk
    simpa [Instr.sameNow] using h
  · simp at h
theorem ba_beq {a b : ByteArray} (h : (a == b) = true) : a = b := by
  have h2 : ByteArray.beq a b = true := h
  unfold ByteArray.beq at h2
  cases a; cases b
  simpa using h2
theorem ba_refl (a : ByteArray) : (a == a) = true := by
  show ByteArray.beq a a = true
  unfold ByteArray.beq; simp
theorem sameK_bits {x y : AV} (h : sameK x y = some true) {u v : Value} (hx : VR μ x u) (hy : VR μ y v) (n : Nat) : Instr.sameBits n v u = true := by
  unfold sameK at h
  split at h
  · simp only [VR] at hx hy; subst hx; subst hy
    split at h <;> simp at h
    rename_i hk
    cases n <;> simp [Instr.sameBits, hk, h]
  · simp only [VR] at hx hy; subst hx; subst hy
    simp only [Option.some.injEq] at h
    have := ba_beq h
    subst this
    cases n <;> simp [Instr.sameBits, ba_refl]
  · simp only [VR] at hx hy; subst hx; subst hy
    simp at h
    cases n <;> simp [Instr.sameBits, h]
  · simp at h

def FoundR (μ : Mu) : Option (Nat × AV) → Option (Nat × Value) → Prop
  | none, none => True
  | some (i, a), some (j, v) => i = j ∧ VR μ a v
  | _, _ => False
theorem findA_sound {d : TypeDesc} {x : AV} {u : Value} (hk : keyOk d x = true) (hx : VR μ x u) : ∀ {l : List (AV × AV)} {es : List MapEntry} {i : Nat} {r : Option (Nat × AV)},
    VRs μ (l.map (·.1)) (es.map (·.key)) → VRs μ (l.map (·.2)) (es.map (·.val)) → findA x l i = some r →
    ∃ r', Instr.findNow d u es i = some r' ∧ FoundR μ r r' ∧ (∀ j a, r = some (j, a) → i ≤ j ∧ ∃ p, l[j - i]? = some p ∧ sameK x p.1 = some true)
  | [], es, i, r, h1, h2, h => by
    simp only [List.map_nil, VRs, List.map_eq_nil_iff] at h1
    subst h1
    simp only [findA, Option.some.injEq] at h; subst h
    exact ⟨none, rfl, trivial, fun j a e => by simp at e⟩
  | (y, v) :: l, es, i, r, h1, h2, h => by
    cases es with
    | nil => simp [VRs] at h1
    | cons e es =>
      simp only [List.map_cons, VRs, List.cons.injEq] at h1 h2
      obtain ⟨_, _, ⟨rfl, rfl⟩, hy, h1⟩ := h1
      obtain ⟨_, _, ⟨rfl, rfl⟩, hv, h2⟩ := h2
      simp only [findA] at h
      split at h
      · rename_i hs
        simp only [Option.some.injEq] at h; subst h
        refine ⟨some (i, e.val), by simp [Instr.findNow, sameK_sound hk hs hx hy], ⟨rfl, hv⟩, fun j a he => ?_⟩
        simp only [Option.some.injEq, Prod.mk.injEq] at he
        obtain ⟨rfl, rfl⟩ := he
        exact ⟨Nat.le_refl _, (y, v), by simp, hs⟩
      · rename_i hs
        obtain ⟨r', k1, k2, k3⟩ := findA_sound hk hx h1 h2 h
        refine ⟨r', by simp [Instr.findNow, sameK_sound hk hs hx hy, k1], k2, fun j a he => ?_⟩
        obtain ⟨k4, p, k5, k6⟩ := k3 j a he
        refine ⟨by omega, p, ?_, k6⟩
        rw [show j - i = (j - (i + 1)) + 1 by omega]
        simpa using k5
      · simp at h

theorem run_checkKey {kt : TypeId} {d : TypeDesc} (hd : P.underlying kt = some d) {x : AV} (hk : keyOk d x = true) {u : Value} (hx : VR μ x u) (e : Bool) (n : Nat) (w : World) : (Instr.checkKey e (n + 1) kt u).run P w = .ok () w := by
  unfold keyOk at hk
  split at hk
  · simp only [VR] at hx; subst hx; simp [Instr.checkKey, run_underlying hd]
  · simp only [VR] at hx; subst hx; simp [Instr.checkKey, run_underlying hd]
  · simp only [VR] at hx; subst hx; simp [Instr.checkKey, run_underlying hd]
  · simp at hk
theorem run_findKey {kt : TypeId} {d : TypeDesc} (hd : P.underlying kt = some d) {u : Value} {es : List MapEntry} {r : Option (Nat × Value)} (h : Instr.findNow d u es 0 = some r) (w : World) : (Instr.findKey kt u es).run P w = .ok r w := by
  simp [Instr.findKey, run_underlying hd, h]
theorem run_getMap {r : Nat} {es : Array MapEntry} {ck : Nat} (h : w.heap[r]? = some (.map es ck)) : (getObj r).run P w = .ok (.map es ck) w := by
  simp [getObj, Sem.run, h]
def World.setObj' (w : World) (r : Nat) (o : Obj) : World := { w with heap := w.heap.setIfInBounds r o }
theorem run_setMap {r : Nat} {es : Array MapEntry} {ck : Nat} (h : w.heap[r]? = some (.map es ck)) (o : Obj) : (setObj r o).run P w = .ok () (World.setObj' w r o) := by
  simp [setObj, Sem.run, h, World.setObj']
theorem setObj'_self {r : Nat} {o o' : Obj} (h : w.heap[r]? = some o) : (World.setObj' w r o').heap[r]? = some o' := by
  have := lt_of_heap h
  simp [World.setObj', this]
theorem setObj'_ne {r k : Nat} {o' : Obj} (h : k ≠ r) : (World.setObj' w r o').heap[k]? = w.heap[k]? := by
  simp only [World.setObj']
  rw [Array.getElem?_setIfInBounds, if_neg (fun e => h e.symm)]
theorem below_setObj {B : Nat} {a : World} (h : Below B a w) {r : Nat} (hr : B ≤ r) (o : Obj) : Below B a (World.setObj' w r o) :=
  ⟨h.os, h.tape, h.output, by simpa [World.setObj'] using h.size, fun k hk => by rw [setObj'_ne (by omega)]; exact h.block k hk⟩

theorem mapT_sound {t : TypeId} {x : AV} {kt et : TypeId} (h : mapT P t x = some (kt, et)) : P.underlying t = some (.map kt et) ∧ ∃ d, P.underlying kt = some d ∧ keyOk d x = true := by
  unfold mapT at h
  split at h
  · rename_i k e hd
    split at h
    · rename_i d hk
      split at h
      · rename_i hok
        simp only [Option.some.injEq, Prod.mk.injEq] at h
        obtain ⟨rfl, rfl⟩ := h
        exact ⟨hd, d, hk, hok⟩
      · simp at h
    · simp at h
  · simp at h

/-- a map's entries are changed -/
theorem Rel.setMap (h : Rel P w0 H μ w) {b : Nat} {l l' : List (AV × AV)} (hb : H.get b = some (.map l)) {L : Loc} (hL : μ b = some L) {es : Array MapEntry} {ck : Nat} (hm : MapR μ l' es) (hge : w0.heap.size ≤ L.c) {o : Obj} (ho : w.heap[L.c]? = some o) :
    Rel P w0 (H.set b (.map l')) μ (World.setObj' w L.c (.map es ck)) :=
  h.change hb rfl hL (below_setObj h.below hge _) (fun k hk _ => setObj'_ne hk) ⟨L, es, ck, hL, setObj'_self ho, hm, hge⟩

theorem MapR.set {l : List (AV × AV)} {es : Array MapEntry} (h : MapR μ l es) (i : Nat) {x v : AV} {u z : Value} (hx : VR μ x u) (hv : VR μ v z) : MapR μ (l.set i (x, v)) (es.modify i fun e => { e with key := u, val := z }) := by
  have e1 : ((es.modify i fun e => { e with key := u, val := z }).toList.map (·.key)) = (es.toList.map (·.key)).set i u := by
    apply List.ext_getElem?
    intro j
    rw [List.getElem?_map, Array.getElem?_toList, Array.getElem?_modify, List.getElem?_set, List.getElem?_map, Array.getElem?_toList]
    by_cases hij : i = j
    · subst hij
      simp only [if_true]
      by_cases hlt : i < es.size
      · simp [hlt]
      · simp [hlt]
    · simp [hij]
  have e2 : ((es.modify i fun e => { e with key := u, val := z }).toList.map (·.val)) = (es.toList.map (·.val)).set i z := by
    apply List.ext_getElem?
    intro j
    rw [List.getElem?_map, Array.getElem?_toList, Array.getElem?_modify, List.getElem?_set, List.getElem?_map, Array.getElem?_toList]
    by_cases hij : i = j
    · subst hij
      simp only [if_true]
      by_cases hlt : i < es.size
      · simp [hlt]
      · simp [hlt]
    · simp [hij]
  refine ⟨?_, ?_⟩
  · rw [e1, List.map_set]; exact h.1.set i hx
  · rw [e2, List.map_set]; exact h.2.set i hv
theorem MapR.push {l : List (AV × AV)} {es : Array MapEntry} (h : MapR μ l es) {x v : AV} {u z : Value} (hx : VR μ x u) (hv : VR μ v z) (n : Nat) : MapR μ (l ++ [(x, v)]) (es.push { key := u, val := z, born := n }) := by
  refine ⟨?_, ?_⟩
  · rw [List.map_append, Array.toList_push, List.map_append]
    exact h.1.append (by simp only [List.map_cons, List.map_nil, VRs]; exact ⟨u, [], rfl, hx, rfl⟩)
  · rw [List.map_append, Array.toList_push, List.map_append]
    exact h.2.append (by simp only [List.map_cons, List.map_nil, VRs]; exact ⟨z, [], rfl, hv, rfl⟩)
theorem VRs.eraseIdx : ∀ {l : List AV} {vs : List Value} (i : Nat), VRs μ l vs → VRs μ (l.eraseIdx i) (vs.eraseIdx i)
  | [], _, i, h => by simp only [VRs] at h; subst h; simp [VRs]
  | a :: l, _, 0, h => by
    simp only [VRs] at h
    obtain ⟨u, us, rfl, _, h3⟩ := h
    simpa using h3
  | a :: l, _, i + 1, h => by
    simp only [VRs] at h
    obtain ⟨u, us, rfl, h2, h3⟩ := h
    simp only [List.eraseIdx_cons_succ, VRs]
    exact ⟨u, _, rfl, h2, VRs.eraseIdx i h3⟩
theorem MapR.erase {l : List (AV × AV)} {es : Array MapEntry} (h : MapR μ l es) (i : Nat) : MapR μ (l.eraseIdx i) (es.eraseIdxIfInBounds i) := by
  have ht : (es.eraseIdxIfInBounds i).toList = es.toList.eraseIdx i := by
    unfold Array.eraseIdxIfInBounds
    split
    · simp
    · rename_i hge
      rw [List.eraseIdx_of_length_le (by simp; omega)]
  have e0 : ∀ {α β : Type} (f : α → β) (l : List α) (i : Nat), (l.eraseIdx i).map f = (l.map f).eraseIdx i := by
    intro α β f l
    induction l with
    | nil => intro i; simp
    | cons a l ih => intro i; cases i <;> simp [ih]
  refine ⟨?_, ?_⟩
  · rw [ht, e0, e0]; exact VRs.eraseIdx i h.1
  · rw [ht, e0, e0]; exact VRs.eraseIdx i h.2

theorem updA_sound (hR : Rel P w0 H μ w) {t : TypeId} {m k v : AV} {H' : AH} (h : updA P t m k v H = some H') {um uk uv : Value} (hm : VR μ m um) (hk : VR μ k uk) (hv : VR μ v uv) :
    ∃ w', (Instr.mapUpdate t um uk uv).run P w = .ok () w' ∧ Rel P w0 H' μ w' := by
  unfold updA at h
  split at h
  · rename_i p b hmt
    obtain ⟨kt, et⟩ := p
    obtain ⟨hd, d, hkd, hok⟩ := mapT_sound hmt
    split at h
    · rename_i l hb
      simp only [Option.map_eq_some_iff] at h
      obtain ⟨l', hl', rfl⟩ := h
      simp only [VR] at hm
      obtain ⟨L, h1, rfl⟩ := hm
      obtain ⟨L', es, ck, g1, g2, g3, g4⟩ := hR.blk b _ hb
      rw [h1] at g1; simp only [Option.some.injEq] at g1; subst g1
      unfold mapPut at hl'
      split at hl'
      · rename_i i a hf
        simp only [Option.some.injEq] at hl'; subst hl'
        obtain ⟨r', k1, k2, k3⟩ := findA_sound hok hk g3.1 g3.2 hf
        cases r' with
        | none => exact k2.elim
        | some r' =>
          obtain ⟨j, z⟩ := r'
          obtain ⟨rfl, k2⟩ := k2
          obtain ⟨_, p, k5, k6⟩ := k3 _ _ rfl
          simp only [Nat.sub_zero] at k5
          obtain ⟨q, hq1, hq2⟩ := g3.1.get i p.1 (by rw [List.getElem?_map, k5]; rfl)
          rw [List.getElem?_map, Array.getElem?_toList] at hq1
          have hbits : ∀ (old : Value), ((es[i]?).map (·.key)).getD uk = old → Instr.sameBits 10000 old uk = true := by
            intro old ho
            subst ho
            rw [hq1]
            exact sameK_bits k6 hk hq2 _
          refine ⟨World.setObj' w L.c (.map (es.modify i fun e => { e with key := uk, val := uv }) ck), ?_, hR.setMap hb h1 (g3.set i hk hv) g4 g2⟩
          have hkeep : (Instr.keyThatStays (((es[i]?).map (·.key)).getD uk) uk).run P w = .ok uk w := by
            unfold Instr.keyThatStays
            rw [if_pos (hbits _ rfl)]; rfl
          simp only [Instr.mapUpdate, Sem.run_bind, run_underlying hd, Result.andThen_ok, run_getMap g2, run_checkKey hkd hok hk false 9999 w, run_findKey hkd k1, hkeep, run_setMap g2]
      · rename_i hf
        simp only [Option.some.injEq] at hl'; subst hl'
        obtain ⟨r', k1, k2, k3⟩ := findA_sound hok hk g3.1 g3.2 hf
        cases r' with
        | some r' => exact k2.elim
        | none =>
          refine ⟨World.setObj' w L.c (.map (es.push { key := uk, val := uv, born := ck }) (ck + 1)), ?_, hR.setMap hb h1 (g3.push hk hv ck) g4 g2⟩
          simp only [Instr.mapUpdate, Sem.run_bind, run_underlying hd, Result.andThen_ok, run_getMap g2, run_checkKey hkd hok hk false 9999 w, run_findKey hkd k1, run_setMap g2]
      · simp at hl'
    · simp at h
  · simp at h
end
end Go.Ev

/- One operation of the evaluator is the machine's. -/
namespace Go.Ev
open Go Go.RowKit
set_option linter.unusedSimpArgs false
set_option linter.unusedVariables false

section
variable {P : Program} {w0 : World} {H : AH} {μ : Mu} {w : World}

theorem zeroV_sound {t : TypeId} {z : AV} (h : zeroV P t = some z) (w : World) : ∃ v, (zeroValue t).run P w = .ok v w ∧ VR μ z v := by
  unfold zeroV at h
  simp only [Option.bind_eq_some_iff] at h
  obtain ⟨i, hi, v, hv, hz⟩ := h
  exact ⟨v, run_zeroValue hi hv w, cv_sound hz⟩

theorem lookA_sound (hR : Rel P w0 H μ w) {t : TypeId} {m k r : AV} {ok : Bool} (h : lookA P t m k H ok = some r) {um uk : Value} (hm : VR μ m um) (hk : VR μ k uk) :
    ∃ z, (Instr.lookup t um uk ok).run P w = .ok z w ∧ VR μ r z := by
  unfold lookA at h
  split at h
  · rename_i kt et hmt
    obtain ⟨hd, d, hkd, hok⟩ := mapT_sound hmt
    simp only at h
    split at h
    · rename_i l hl
      have key : ∃ es : Array MapEntry, MapR μ l es ∧ ((um = .map none ∧ es = #[]) ∨ ∃ r ck, um = .map (some r) ∧ (getObj r).run P w = .ok (.map es ck) w) := by
        split at hl
        · simp only [Option.some.injEq] at hl; subst hl
          simp only [VR] at hm; subst hm
          exact ⟨#[], by simp [MapR, VRs], .inl ⟨rfl, rfl⟩⟩
        · rename_i b
          simp only [VR] at hm
          obtain ⟨L, h1, rfl⟩ := hm
          split at hl
          · rename_i l2 hb
            simp only [Option.some.injEq] at hl; subst hl
            obtain ⟨L', es, ck, g1, g2, g3, g4⟩ := hR.blk b _ hb
            rw [h1] at g1; simp only [Option.some.injEq] at g1; subst g1
            exact ⟨es, g3, .inr ⟨_, ck, rfl, run_getMap g2⟩⟩
          · simp at hl
        · simp at hl
      obtain ⟨es, g3, hes⟩ := key
      have hck : ∀ e, (Instr.checkKey e 10000 kt uk).run P w = .ok () w := fun e => run_checkKey hkd hok hk e 9999 w
      split at h
      · rename_i i v hf
        simp only [Option.some.injEq] at h; subst h
        obtain ⟨r', k1, k2, _⟩ := findA_sound hok hk g3.1 g3.2 hf
        cases r' with
        | none => exact k2.elim
        | some r' =>
          obtain ⟨j, z⟩ := r'
          obtain ⟨rfl, k2⟩ := k2
          refine ⟨if ok then .tuple #[z, .bool true] else z, ?_, ?_⟩
          · rcases hes with ⟨rfl, rfl⟩ | ⟨q, ck, rfl, hq⟩
            · simp only [Instr.lookup, Sem.run_bind, run_underlying hd, Result.andThen_ok, Sem.run_pure, hck, run_findKey hkd k1]
            · simp only [Instr.lookup, Sem.run_bind, run_underlying hd, Result.andThen_ok, Sem.run_pure, hq, hck, run_findKey hkd k1]
          · cases ok
            · simpa using k2
            · simp only [if_true, VR]
              exact ⟨_, rfl, by simp only [VRs]; exact ⟨z, _, rfl, k2, .bool true, [], rfl, by simp [VR], rfl⟩⟩
      · rename_i hf
        obtain ⟨r', k1, k2, _⟩ := findA_sound hok hk g3.1 g3.2 hf
        cases r' with
        | some r' => exact k2.elim
        | none =>
          split at h
          · rename_i z hz
            simp only [Option.some.injEq] at h; subst h
            obtain ⟨v, hv1, hv2⟩ := zeroV_sound (μ := μ) hz w
            refine ⟨if ok then .tuple #[v, .bool false] else v, ?_, ?_⟩
            · rcases hes with ⟨rfl, rfl⟩ | ⟨q, ck, rfl, hq⟩
              · simp only [Instr.lookup, Sem.run_bind, run_underlying hd, Result.andThen_ok, Sem.run_pure, hck, run_findKey hkd k1, hv1]
              · simp only [Instr.lookup, Sem.run_bind, run_underlying hd, Result.andThen_ok, Sem.run_pure, hq, hck, run_findKey hkd k1, hv1]
            · cases ok
              · simpa using hv2
              · simp only [if_true, VR]
                exact ⟨_, rfl, by simp only [VRs]; exact ⟨v, _, rfl, hv2, .bool false, [], rfl, by simp [VR], rfl⟩⟩
          · simp at h
      · simp at h
    · simp at h
  · simp at h

theorem delA_sound (hR : Rel P w0 H μ w) {t : TypeId} {m k : AV} {H' : AH} (h : delA P t m k H = some H') {um uk : Value} (hm : VR μ m um) (hk : VR μ k uk) (ats : Array TypeId) (ha : ats[0]? = some t) (ty : TypeId) :
    Does P w0 μ H' ((Builtin.delete_ ats ty #[um, uk]).run P w) U := by
  have hU : VR μ U (.tuple #[]) := by simp only [U, VR]; exact ⟨#[], rfl, by simp [VRs]⟩
  unfold delA at h
  split at h
  · rename_i p hmt
    obtain ⟨kt, et⟩ := p
    obtain ⟨hd, d, hkd, hok⟩ := mapT_sound hmt
    simp only [Option.some.injEq] at h; subst h
    simp only [VR] at hm; subst hm
    have hck : (Instr.checkKey true 10000 kt uk).run P w = .ok () w := run_checkKey hkd hok hk true 9999 w
    refine ⟨.tuple #[], w, μ, ?_, Ext.refl _, hR, hU⟩
    have e0 : (#[Value.map none, uk] : Array Value)[0]? = some (.map none) := rfl
    have e1 : (#[Value.map none, uk] : Array Value)[1]? = some uk := rfl
    simp only [Builtin.delete_, ha, e0, e1, Sem.run_bind, run_underlying hd, Result.andThen_ok, hck, Sem.run_pure]
  · rename_i p b hmt
    obtain ⟨kt, et⟩ := p
    obtain ⟨hd, d, hkd, hok⟩ := mapT_sound hmt
    split at h
    · rename_i l hb
      simp only [VR] at hm
      obtain ⟨L, h1, rfl⟩ := hm
      obtain ⟨L', es, ck, g1, g2, g3, g4⟩ := hR.blk b _ hb
      rw [h1] at g1; simp only [Option.some.injEq] at g1; subst g1
      have hck : ∀ e, (Instr.checkKey e 10000 kt uk).run P w = .ok () w := fun e => run_checkKey hkd hok hk e 9999 w
      split at h
      · rename_i i v hf
        simp only [Option.some.injEq] at h; subst h
        obtain ⟨r', k1, k2, _⟩ := findA_sound hok hk g3.1 g3.2 hf
        cases r' with
        | none => exact k2.elim
        | some r' =>
          obtain ⟨j, z⟩ := r'
          obtain ⟨rfl, k2⟩ := k2
          refine ⟨.tuple #[], World.setObj' w L.c (.map (es.eraseIdxIfInBounds i) ck), μ, ?_, Ext.refl _, hR.setMap hb h1 (g3.erase i) g4 g2, hU⟩
          have e0 : (#[Value.map (some L.c), uk] : Array Value)[0]? = some (.map (some L.c)) := rfl
          have e1 : (#[Value.map (some L.c), uk] : Array Value)[1]? = some uk := rfl
          simp only [Builtin.delete_, ha, e0, e1, Sem.run_bind, run_underlying hd, Result.andThen_ok, run_getMap g2, hck, run_findKey hkd k1, run_setMap g2, Sem.run_pure]
      · rename_i hf
        simp only [Option.some.injEq] at h; subst h
        obtain ⟨r', k1, k2, _⟩ := findA_sound hok hk g3.1 g3.2 hf
        cases r' with
        | some r' => exact k2.elim
        | none =>
          have hs := hR.setMap (l' := l) (ck := ck) hb h1 g3 g4 g2
          rw [AH.set_same H b _ hb] at hs
          refine ⟨.tuple #[], World.setObj' w L.c (.map es ck), μ, ?_, Ext.refl _, hs, hU⟩
          have e0 : (#[Value.map (some L.c), uk] : Array Value)[0]? = some (.map (some L.c)) := rfl
          have e1 : (#[Value.map (some L.c), uk] : Array Value)[1]? = some uk := rfl
          simp only [Builtin.delete_, ha, e0, e1, Sem.run_bind, run_underlying hd, Result.andThen_ok, run_getMap g2, hck, run_findKey hkd k1, run_setMap g2, Sem.run_pure]
      · simp at h
    · simp at h
  · simp at h

theorem foldA_mx : ∀ {l : List AV} {a r : AV}, foldA mx2 a l = some r → ∀ {u : Value} {vs : List Value}, VR μ a u → VRs μ l vs → ∃ z, (vs.foldlM Builtin.max2 u).run P w = .ok z w ∧ VR μ r z
  | [], a, r, h, u, vs, ha, hl => by
    simp only [foldA, Option.some.injEq] at h; subst h
    simp only [VRs] at hl; subst hl
    exact ⟨u, rfl, ha⟩
  | b :: l, a, r, h, u, vs, ha, hl => by
    simp only [VRs] at hl
    obtain ⟨x, xs, rfl, hx, hxs⟩ := hl
    simp only [foldA] at h
    split at h
    · rename_i c hc
      unfold mx2 at hc
      split at hc
      · simp only [Option.some.injEq] at hc; subst hc
        simp only [VR] at ha hx; subst ha; subst hx
        obtain ⟨z, h1, h2⟩ := foldA_mx h (by simp only [VR]; rfl) hxs
        refine ⟨z, ?_, h2⟩
        simp only [List.foldlM_cons, Sem.run_bind, Builtin.max2, Sem.run_pure, Result.andThen_ok]
        exact h1
      · simp at hc
    · simp at h
theorem foldA_mn : ∀ {l : List AV} {a r : AV}, foldA mn2 a l = some r → ∀ {u : Value} {vs : List Value}, VR μ a u → VRs μ l vs → ∃ z, (vs.foldlM Builtin.min2 u).run P w = .ok z w ∧ VR μ r z
  | [], a, r, h, u, vs, ha, hl => by
    simp only [foldA, Option.some.injEq] at h; subst h
    simp only [VRs] at hl; subst hl
    exact ⟨u, rfl, ha⟩
  | b :: l, a, r, h, u, vs, ha, hl => by
    simp only [VRs] at hl
    obtain ⟨x, xs, rfl, hx, hxs⟩ := hl
    simp only [foldA] at h
    split at h
    · rename_i c hc
      unfold mn2 at hc
      split at hc
      · simp only [Option.some.injEq] at hc; subst hc
        simp only [VR] at ha hx; subst ha; subst hx
        obtain ⟨z, h1, h2⟩ := foldA_mn h (by simp only [VR]; rfl) hxs
        refine ⟨z, ?_, h2⟩
        simp only [List.foldlM_cons, Sem.run_bind, Builtin.min2, Sem.run_pure, Result.andThen_ok]
        exact h1
      · simp at hc
    · simp at h

theorem arr_of {vs : Array Value} {l : List Value} (h : vs.toList = l) : vs = l.toArray := by subst h; simp
theorem builtA_sound (hR : Rel P w0 H μ w) {b : Builtin} {ats : Array TypeId} {xs : List AV} {r : AV} {H' : AH} (h : builtA P b ats.toList xs H = some (r, H')) {vs : Array Value} (hv : VRs μ xs vs.toList) (ty : TypeId) (cs : Array Bool) :
    Does1 P w0 μ H' ((builtin b ats ty cs vs).run P w) r := by
  unfold builtA at h
  split at h
  · rename_i t x hat
    simp only [Option.map_eq_some_iff, Prod.mk.injEq] at h
    obtain ⟨r', hr, rfl, rfl⟩ := h
    simp only [VRs] at hv
    obtain ⟨u, us, he, hx, rfl⟩ := hv
    obtain rfl := arr_of he
    have hat' : ats = #[t] := by rw [← Array.toArray_toList (xs := ats), hat]
    subst hat'
    exact Does1.of (Does.same hR (lenA_sound hR hr hx ty))
  · rename_i t tx s x hat
    simp only [VRs] at hv
    obtain ⟨u, us, he, hs, u2, us2, rfl, hx, rfl⟩ := hv
    obtain rfl := arr_of he
    have hat' : ats = #[t, tx] := by rw [← Array.toArray_toList (xs := ats), hat]
    subst hat'
    split at h
    · rename_i hi
      exact Does1.of (appZ_sound hR hi h hs hx ty)
    · exact Does1.of (appA_sound hR h hs hx ty)
  · rename_i x l
    simp only [Option.map_eq_some_iff, Prod.mk.injEq] at h
    obtain ⟨r', hr, rfl, rfl⟩ := h
    simp only [VRs] at hv
    obtain ⟨u, us, he, hx, hl⟩ := hv
    refine Does1.of (Does.same hR ?_)
    obtain ⟨z, h1, h2⟩ := foldA_mn (P := P) (w := w) hr hx hl
    exact ⟨z, by simp only [Builtin.min_, he]; exact h1, h2⟩
  · rename_i x l
    simp only [Option.map_eq_some_iff, Prod.mk.injEq] at h
    obtain ⟨r', hr, rfl, rfl⟩ := h
    simp only [VRs] at hv
    obtain ⟨u, us, he, hx, hl⟩ := hv
    refine Does1.of (Does.same hR ?_)
    obtain ⟨z, h1, h2⟩ := foldA_mx (P := P) (w := w) hr hx hl
    exact ⟨z, by simp only [Builtin.max_, he]; exact h1, h2⟩
  · rename_i t ts m k hat
    simp only [Option.map_eq_some_iff, Prod.mk.injEq] at h
    obtain ⟨H2, hr, rfl, rfl⟩ := h
    simp only [VRs] at hv
    obtain ⟨u, us, he, hm, u2, us2, rfl, hk, rfl⟩ := hv
    obtain rfl := arr_of he
    exact Does1.of (delA_sound hR hr hm hk ats (by rw [← Array.getElem?_toList, hat]; rfl) ty)
  · simp at h
end
end Go.Ev

/- One operation of the evaluator that calls no function is the machine's. -/
namespace Go.Ev
open Go Go.RowKit
set_option linter.unusedSimpArgs false
set_option linter.unusedVariables false

section
variable {P : Program} {w0 : World} {H : AH} {μ : Mu} {w : World}

/-- what a slot or constant holds stands for what the machine's does -/
def OR (μ : Mu) (τ : Tm) (a : Act) (x : Operand) : Prop := ∀ v, opnd τ x = some v → VR μ v (a.eval x)
theorem okOp2 {τ : Tm} {a : Act} {x y : Operand} {op : Op} (h : ∀ z ∈ op.operands.toList, OR μ τ a z) (he : op.operands.toList = [x, y]) : OR μ τ a x ∧ OR μ τ a y := by
  rw [he] at h; exact ⟨h x (by simp), h y (by simp)⟩
theorem okOp1 {τ : Tm} {a : Act} {x : Operand} {op : Op} (h : ∀ z ∈ op.operands.toList, OR μ τ a z) (he : op.operands.toList = [x]) : OR μ τ a x := by
  rw [he] at h; exact h x (by simp)
theorem okOp3 {τ : Tm} {a : Act} {x y z : Operand} {op : Op} (h : ∀ z ∈ op.operands.toList, OR μ τ a z) (he : op.operands.toList = [x, y, z]) : OR μ τ a x ∧ OR μ τ a y ∧ OR μ τ a z := by
  rw [he] at h; exact ⟨h x (by simp), h y (by simp), h z (by simp)⟩

theorem opndL_sound {τ : Tm} {a : Act} : ∀ {l : List Operand} {xs : List AV}, (∀ z ∈ l, OR μ τ a z) → opndL τ l = some xs → VRs μ xs (l.map a.eval)
  | [], xs, _, h => by simp [opndL] at h; subst h; simp [VRs]
  | x :: l, xs, hok, h => by
    simp only [opndL] at h
    split at h
    · rename_i v r hv hr
      simp only [Option.some.injEq] at h; subst h
      simp only [List.map_cons, VRs]
      exact ⟨_, _, rfl, hok x (by simp) v hv, opndL_sound (fun z hz => hok z (by simp [hz])) hr⟩
    · simp at h
theorem opndP_sound {τ : Tm} {a : Act} : ∀ {l : List (Nat × Operand)} {xs : List (Nat × AV)}, (∀ z ∈ l.map (·.2), OR μ τ a z) → opndP τ l = some xs → PartsR μ xs (l.map fun (i, x) => (i, a.eval x))
  | [], xs, _, h => by simp [opndP] at h; subst h; simp [PartsR]
  | (i, x) :: l, xs, hok, h => by
    simp only [opndP] at h
    split at h
    · rename_i v r hv hr
      simp only [Option.some.injEq] at h; subst h
      simp only [List.map_cons, PartsR]
      exact ⟨_, _, rfl, hok x (by simp) v hv, opndP_sound (fun z hz => hok z (by simp only [List.map_cons, List.mem_cons]; exact .inr hz)) hr⟩
    · simp at h
theorem opndO_sound {τ : Tm} {a : Act} {x : Option Operand} (hok : ∀ z ∈ x.toArray.toList, OR μ τ a z) {r : Option AV} (h : opndO τ x = some r) : BR μ (some r) (x.map a.eval) := by
  cases x with
  | none => simp [opndO] at h; subst h; simp [BR]
  | some x =>
    simp [opndO] at h
    obtain ⟨v, hv, rfl⟩ := h
    simp only [Option.map_some, BR]
    exact hok x (by simp) v hv

set_option maxHeartbeats 8000000 in
theorem evOp_sound (hR : Rel P w0 H μ w) {τ : Tm} {a : Act} (o : Oper) (hok : ∀ z ∈ o.op.operands.toList, OR μ τ a z) {r : AV} {H' : AH} (h : evOp P o.op τ H = some (r, H')) :
    Does1 P w0 μ H' ((execOp a.eval o).run P w) r := by
  obtain ⟨dst, op, ty, pos, after, guard⟩ := o
  cases op with
  | move x =>
    simp only [evOp, Option.map_eq_some_iff, Prod.mk.injEq] at h
    obtain ⟨v, hv, rfl, rfl⟩ := h
    exact Does1.val hR (okOp1 hok rfl _ hv)
  | assign x =>
    simp only [evOp, Option.map_eq_some_iff, Prod.mk.injEq] at h
    obtain ⟨v, hv, rfl, rfl⟩ := h
    exact Does1.val hR (okOp1 hok rfl _ hv)
  | pick c x y =>
    obtain ⟨k1, k2, k3⟩ := okOp3 hok rfl
    simp only [evOp] at h
    split at h
    · rename_i q hq
      simp only [Option.map_eq_some_iff, Prod.mk.injEq] at h
      obtain ⟨v, hv, rfl, rfl⟩ := h
      have hc := k1 _ hq
      simp only [VR] at hc
      have : (execOp a.eval ⟨dst, .pick c x y, ty, pos, after, guard⟩).run P w = .ok (.value (if q then a.eval x else a.eval y)) w := by
        simp [execOp, hc, asBool]
      rw [this]
      cases q
      · exact Does1.val hR (k3 _ hv)
      · exact Does1.val hR (k2 _ hv)
    · simp at h
  | alloc e =>
    simp only [evOp] at h
    split at h
    · rename_i z sz hz hs
      simp only [Option.some.injEq, Prod.mk.injEq] at h
      obtain ⟨rfl, rfl⟩ := h
      exact Does1.of (alloc_sound hR hz hs)
    · simp at h
  | box e x =>
    simp only [evOp] at h
    split at h
    · rename_i v sz hv hs
      split at h
      · rename_i h1
        simp only [Option.some.injEq, Prod.mk.injEq] at h
        obtain ⟨rfl, rfl⟩ := h
        exact Does1.of (box_sound hR hs h1 (okOp1 hok rfl _ hv))
      · simp at h
    · simp at h
  | build t parts =>
    simp only [evOp] at h
    have hok' : ∀ z ∈ parts.toList.map (·.2), OR μ τ a z := by simpa [Op.operands] using hok
    split at h
    · rename_i ps z hps hz
      have hp := opndP_sound hok' hps
      split at h
      · rename_i pl hpl
        simp only [Option.map_eq_some_iff, Prod.mk.injEq] at h
        obtain ⟨v, hv, rfl, rfl⟩ := h
        exact Does1.of (Does.same hR (build_struct_sound hpl hz hv (vs := parts.map fun (i, x) => (i, a.eval x)) (by simpa using hp) w))
      · split at h
        · rename_i n e ha
          split at h
          · rename_i sz hs
            simp only [Option.map_eq_some_iff, Prod.mk.injEq] at h
            obtain ⟨v, hv, rfl, rfl⟩ := h
            exact Does1.of (Does.same hR (build_array_sound ha hs hz hv (vs := parts.map fun (i, x) => (i, a.eval x)) (by simpa using hp) w))
          · simp at h
        · simp at h
    · simp at h
  | buildSlice t len parts =>
    simp only [evOp] at h
    have hok' : ∀ z ∈ parts.toList.map (·.2), OR μ τ a z := by simpa [Op.operands] using hok
    split at h
    · rename_i ps e hps he
      have hp := opndP_sound hok' hps
      split at h
      · rename_i sz z hs hz
        split at h
        · rename_i hc
          split at h
          · rename_i rr hr
            split at h
            · rename_i h1
              simp only [Option.some.injEq, Prod.mk.injEq] at h
              obtain ⟨rfl, rfl⟩ := h
              have hd := buildSlice_sound hR he hs hz hc.1 hc.2 hr h1 (vs := parts.map fun (i, x) => (i, a.eval x)) (by simpa using hp)
              have e : (execOp a.eval ⟨dst, .buildSlice t len parts, ty, pos, after, guard⟩) = (do pure (.value (← Instr.buildSlice t len (parts.map fun (i, x) => (i, a.eval x)))) : Sem Next) := rfl
              rw [e]; exact Does1.of hd
            · simp at h
          · simp at h
        · simp at h
      · simp at h
    · simp at h
  | load t x =>
    simp only [evOp] at h
    split at h
    · rename_i b o hx
      simp only [Option.map_eq_some_iff, Prod.mk.injEq] at h
      obtain ⟨v, hv, rfl, rfl⟩ := h
      have hp := okOp1 hok rfl _ hx
      simp only [VR] at hp
      obtain ⟨L, h1, h2⟩ := hp
      obtain ⟨z, h3, h4⟩ := ldVar_sound hR hv h1
      refine Does1.of (Does.same hR ⟨z, ?_, h4⟩)
      simp [h2, Instr.loadAt, sureAddr_run, h3]
    · simp at h
  | store t x y =>
    obtain ⟨k1, k2⟩ := okOp2 hok rfl
    simp only [evOp] at h
    split at h
    · rename_i b o v hx hy
      simp only [Option.map_eq_some_iff, Prod.mk.injEq] at h
      obtain ⟨H2, hs, rfl, rfl⟩ := h
      have hp := k1 _ hx
      simp only [VR] at hp
      obtain ⟨L, h1, h2⟩ := hp
      obtain ⟨w', h3, h4⟩ := stVar_sound hR hs h1 (k2 _ hy)
      refine Does1.unit ?_ (Ext.refl _) h4
      simp [h2, Instr.storeAt, sureAddr_run, h3]
    · simp at h
  | nilCheck x =>
    have k1 := okOp1 hok rfl
    simp only [evOp] at h
    split at h
    · rename_i b o hx
      simp only [Option.some.injEq, Prod.mk.injEq] at h
      obtain ⟨rfl, rfl⟩ := h
      have hp := k1 _ hx
      have hp' := hp
      simp only [VR] at hp'
      obtain ⟨L, h1, h2⟩ := hp'
      have : (execOp a.eval ⟨dst, .nilCheck x, ty, pos, after, guard⟩).run P w = .ok (.value (a.eval x)) w := by simp [execOp, h2]
      rw [this]; exact Does1.val hR hp
    · rename_i f fs l hx
      simp only [Option.some.injEq, Prod.mk.injEq] at h
      obtain ⟨rfl, rfl⟩ := h
      have hp := k1 _ hx
      have hp' := hp
      simp only [VR] at hp'
      obtain ⟨gs, cs, h2, _⟩ := hp'
      have : (execOp a.eval ⟨dst, .nilCheck x, ty, pos, after, guard⟩).run P w = .ok (.value (a.eval x)) w := by simp [execOp, h2]
      rw [this]; exact Does1.val hR hp
    · rename_i t v hx
      simp only [Option.some.injEq, Prod.mk.injEq] at h
      obtain ⟨rfl, rfl⟩ := h
      have hp := k1 _ hx
      have hp' := hp
      simp only [VR] at hp'
      obtain ⟨u, h2, _⟩ := hp'
      have : (execOp a.eval ⟨dst, .nilCheck x, ty, pos, after, guard⟩).run P w = .ok (.value (a.eval x)) w := by simp [execOp, h2]
      rw [this]; exact Does1.val hR hp
    · simp at h
  | binOp op t x y yt =>
    obtain ⟨k1, k2⟩ := okOp2 hok rfl
    simp only [evOp] at h
    split at h
    · rename_i u v hx hy
      simp only [Option.map_eq_some_iff, Prod.mk.injEq] at h
      obtain ⟨z, hz, rfl, rfl⟩ := h
      exact Does1.of (Does.same hR (binA_sound hz (k1 _ hx) (k2 _ hy) w))
    · simp at h
  | unOp op t x =>
    simp only [evOp] at h
    split at h
    · rename_i u hx
      simp only [Option.map_eq_some_iff, Prod.mk.injEq] at h
      obtain ⟨z, hz, rfl, rfl⟩ := h
      exact Does1.of (Does.same hR (unA_sound hz (okOp1 hok rfl _ hx) w))
    · simp at h
  | convert s d x =>
    simp only [evOp] at h
    split at h
    · rename_i u hx
      exact Does1.of (convA_sound hR h (okOp1 hok rfl _ hx))
    · simp at h
  | makeInterface t x =>
    simp only [evOp] at h
    split at h
    · simp at h
    · rename_i d u hni hd hx
      simp only [Option.some.injEq, Prod.mk.injEq] at h
      obtain ⟨rfl, rfl⟩ := h
      refine Does1.of (Does.same hR ⟨.iface t (a.eval x), ?_, by simp only [VR]; exact ⟨_, rfl, okOp1 hok rfl _ hx⟩⟩)
      cases d with
      | interface ms => exact (hni _ rfl).elim
      | _ => simp [Instr.makeInterface, run_underlying hd]
    · simp at h
  | makeFunc fn first captured =>
    cases fn with
    | func f =>
      simp only [evOp] at h
      have hok0 : ∀ z ∈ first.toList ++ captured.toList, OR μ τ a z := by simpa [Op.operands] using hok
      have hok' : (∀ z ∈ first.toList, OR μ τ a z) ∧ (∀ z ∈ captured.toList, OR μ τ a z) :=
        ⟨fun z hz => hok0 z (List.mem_append.2 (.inl hz)), fun z hz => hok0 z (List.mem_append.2 (.inr hz))⟩
      split at h
      · rename_i u v hx hy
        simp only [Option.some.injEq, Prod.mk.injEq] at h
        obtain ⟨rfl, rfl⟩ := h
        refine Does1.of (Does.same hR ⟨.func (.func f) (first.map a.eval) (captured.map a.eval), rfl, ?_⟩)
        simp only [VR]
        exact ⟨_, _, rfl, by simpa using opndL_sound hok'.1 hx, by simpa using opndL_sound hok'.2 hy⟩
      · simp at h
    | _ => simp [evOp] at h
  | makeMap t r =>
    cases r with
    | none =>
      simp only [evOp, Option.some.injEq, Prod.mk.injEq] at h
      obtain ⟨rfl, rfl⟩ := h
      refine Does1.of ⟨.map (some w.heap.size), w.alloc (.map #[] 0), muPush μ H.next ⟨w.heap.size, 0, 0, 0⟩, ?_, hR.ext _, hR.pushMap 0, by simp only [VR]; exact ⟨_, muPush_self _ _ _, rfl⟩⟩
      simp [Instr.makeMap]
    | some r => simp [evOp] at h
  | makeSlice t l c =>
    obtain ⟨k1, k2⟩ := okOp2 hok rfl
    simp only [evOp] at h
    split at h
    · rename_i kl l' kc c' e hl hc he
      split at h
      · rename_i sz by_ z hs hb hz
        split at h
        · rename_i hcc
          simp only [Option.some.injEq, Prod.mk.injEq] at h
          obtain ⟨rfl, rfl⟩ := h
          have e1 := k1 _ hl
          have e2 := k2 _ hc
          simp only [VR] at e1 e2
          have := makeSlice_sound hR he hs hb hz hcc.1 (kl := kl) (kc := kc) hcc.2.1 hcc.2.2.1 hcc.2.2.2.1 hcc.2.2.2.2
          rw [← e1, ← e2] at this
          exact Does1.of this
        · simp at h
      · simp at h
    · simp at h
  | slice t x lo hi mx =>
    cases mx with
    | some m => simp [evOp] at h
    | none =>
      have hok0 : ∀ z ∈ [x] ++ lo.toArray.toList ++ hi.toArray.toList, OR μ τ a z := by simpa [Op.operands] using hok
      have hok' : OR μ τ a x ∧ (∀ z ∈ lo.toArray.toList, OR μ τ a z) ∧ (∀ z ∈ hi.toArray.toList, OR μ τ a z) :=
        ⟨hok0 x (by simp), fun z hz => hok0 z (List.mem_append.2 (.inl (List.mem_append.2 (.inr hz)))), fun z hz => hok0 z (List.mem_append.2 (.inr hz))⟩
      simp only [evOp] at h
      split at h
      · rename_i u l hh hx hl hhh
        simp only [Option.map_eq_some_iff, Prod.mk.injEq] at h
        obtain ⟨z, hz, rfl, rfl⟩ := h
        exact Does1.of (Does.same hR (cutA_sound hR hz (hok'.1 _ hx) (opndO_sound hok'.2.1 hl) (opndO_sound hok'.2.2 hhh)))
      · simp at h
  | fieldAddr s x f =>
    simp only [evOp] at h
    split at h
    · rename_i b o off ft hx hf
      split at h
      · rename_i n hn
        split at h
        · rename_i hn0
          simp only [Option.some.injEq, Prod.mk.injEq] at h
          obtain ⟨rfl, rfl⟩ := h
          have hp := okOp1 hok rfl _ hx
          simp only [VR] at hp
          obtain ⟨L, h1, h2⟩ := hp
          refine Does1.of (Does.same hR ⟨.pointer (some ⟨L.c, L.base + o + off, none⟩), by rw [h2]; exact fieldAt_sound hf hn hn0 _ _ w, by simp only [VR]; exact ⟨L, h1, by rw [Nat.add_assoc]⟩⟩)
        · simp at h
      · simp at h
    · simp at h
  | field s x f =>
    simp only [evOp] at h
    split at h
    · rename_i l off ft hx hf
      simp only [Option.map_eq_some_iff, Prod.mk.injEq] at h
      obtain ⟨z, hz, rfl, rfl⟩ := h
      have hp := okOp1 hok rfl _ hx
      simp only [VR] at hp
      obtain ⟨cs, h1, h2⟩ := hp
      refine Does1.of (Does.same hR ?_)
      rw [h1]; exact field_sound hf hz h2 w
    · simp at h
  | indexAddr t x i =>
    obtain ⟨k1, k2⟩ := okOp2 hok rfl
    simp only [evOp] at h
    split at h
    · rename_i u v hx hy
      simp only [Option.map_eq_some_iff, Prod.mk.injEq] at h
      obtain ⟨z, hz, rfl, rfl⟩ := h
      exact Does1.of (Does.same hR (idxA_sound hz (k1 _ hx) (k2 _ hy) w))
    · simp at h
  | index t x i =>
    obtain ⟨k1, k2⟩ := okOp2 hok rfl
    simp only [evOp] at h
    split at h
    · rename_i u v hx hy
      simp only [Option.map_eq_some_iff, Prod.mk.injEq] at h
      obtain ⟨z, hz, rfl, rfl⟩ := h
      exact Does1.of (Does.same hR (indexA_sound hz (k1 _ hx) (k2 _ hy) w))
    · simp at h
  | extract x i =>
    simp only [evOp] at h
    split at h
    · rename_i l hx
      simp only [Option.map_eq_some_iff, Prod.mk.injEq] at h
      obtain ⟨z, hz, rfl, rfl⟩ := h
      have hp := okOp1 hok rfl _ hx
      simp only [VR] at hp
      obtain ⟨cs, h1, h2⟩ := hp
      obtain ⟨u, h3, h4⟩ := h2.get i z hz
      rw [Array.getElem?_toList] at h3
      refine Does1.of (Does.same hR ⟨u, ?_, h4⟩)
      simp [h1, Instr.extract, h3]
    · simp at h
  | lookup t m k ok =>
    obtain ⟨k1, k2⟩ := okOp2 hok rfl
    simp only [evOp] at h
    split at h
    · rename_i u v hx hy
      simp only [Option.map_eq_some_iff, Prod.mk.injEq] at h
      obtain ⟨z, hz, rfl, rfl⟩ := h
      exact Does1.of (Does.same hR (lookA_sound hR hz (k1 _ hx) (k2 _ hy)))
    · simp at h
  | mapUpdate t m k v =>
    obtain ⟨k1, k2, k3⟩ := okOp3 hok rfl
    simp only [evOp] at h
    split at h
    · rename_i x y z hx hy hz
      simp only [Option.map_eq_some_iff, Prod.mk.injEq] at h
      obtain ⟨H2, hs, rfl, rfl⟩ := h
      obtain ⟨w', h3, h4⟩ := updA_sound hR hs (k1 _ hx) (k2 _ hy) (k3 _ hz)
      exact Does1.unit h3 (Ext.refl _) h4
    · simp at h
  | insert t m k v =>
    obtain ⟨k1, k2, k3⟩ := okOp3 hok rfl
    simp only [evOp] at h
    split at h
    · rename_i x y z hx hy hz
      simp only [Option.map_eq_some_iff, Prod.mk.injEq] at h
      obtain ⟨H2, hs, rfl, rfl⟩ := h
      obtain ⟨w', h3, h4⟩ := updA_sound hR hs (k1 _ hx) (k2 _ hy) (k3 _ hz)
      exact Does1.unit h3 (Ext.refl _) h4
    · simp at h
  | call c =>
    obtain ⟨callee, args, ats⟩ := c
    cases callee with
    | builtin b =>
      simp only [evOp] at h
      have hok' : ∀ z ∈ args.toList, OR μ τ a z := by simpa [Op.operands, Call.operands] using hok
      split at h
      · rename_i xs hx
        have hv := opndL_sound hok' hx
        have hb := fun cs => builtA_sound hR h (vs := args.map a.eval) (by simpa using hv) ty cs
        have e : ∃ cs, (execOp a.eval ⟨dst, .call ⟨.builtin b, args, ats⟩, ty, pos, after, guard⟩).run P w = (builtin b ats ty cs (args.map a.eval)).run P w :=
          ⟨_, by simp only [execOp, resolve, invoke, Sem.run_bind, Sem.run_pure, Result.andThen_ok]; rfl⟩
        obtain ⟨cs, e⟩ := e
        rw [e]; exact hb cs
      · simp at h
    | _ => simp [evOp] at h
  | _ => simp [evOp] at h
end
end Go.Ev
