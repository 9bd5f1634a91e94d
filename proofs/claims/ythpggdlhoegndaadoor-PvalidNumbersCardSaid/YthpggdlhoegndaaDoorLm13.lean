/-
  ROWS, on: an element written over; lists written out; make. MAPS. Captured variables.
-/
import Derived.Test.YthpggdlhoegndaaDoorLm12
import Derived.Laws.MakeOwn
set_option linter.all false
namespace Go.Proofs.YthpggdlhoegndaaDoor.LM
open Go

section
variable {P : Program} {k : Ctx}

theorem set_cases {xs : List V} {i j : Nat} {v u : V} (h : (xs.set i v)[j]? = some u) : u = v ∨ xs[j]? = some u := by
  rw [List.getElem?_set] at h
  by_cases e : i = j
  · rw [if_pos e] at h
    by_cases hl : i < xs.length
    · rw [if_pos hl] at h; exact .inl (Option.some.inj h).symm
    · rw [if_neg hl] at h; cases h
  · rw [if_neg e] at h; exact .inr h

/-! ### an element of a row written over -/
theorem setRow_some {idx off : Nat} {y : V} {xs xs' : List V} (h : setRow idx off y xs = some xs') (hp : y.pure = true) :
    ∃ x0 v', xs[idx]? = some x0 ∧ xs' = xs.set idx v' ∧ v'.cells = putCells off y.cells x0.cells ∧ off + y.cells.length ≤ x0.cells.length := by
  unfold setRow at h
  split at h
  · rename_i cs hx
    obtain ⟨hb, h⟩ := bif_yes h
    simp only [Option.some.injEq] at h
    exact ⟨_, _, hx, h.symm, rfl, Nat.le_of_ble_eq_true hb⟩
  · rename_i x0 hne hx
    obtain ⟨hb, h2⟩ := bif_yes h
    simp only [Option.some.injEq] at h2
    simp only [Bool.and_eq_true, Bool.not_eq_true'] at hb
    have h0 := beq_nat hb.1
    subst h0
    have hy1 : y.cells = [y] := by
      cases y <;> first | rfl | (simp [isAggV] at hb)
    have hx1 : x0.cells = [x0] := by
      cases x0 <;> first | rfl | (exact absurd rfl (hne _))
    refine ⟨x0, y, hx, h2.symm, ?_, ?_⟩
    · rw [hy1, hx1]; rfl
    · rw [hy1, hx1]; exact Nat.le_refl _
  · cases h
theorem store_row {t : TypeId} {sz s i e idx off : Nat} {xs xs' : List V} {y : V} {x a : Value} (hk : OK k) (hi : k.h.get i = some (.row xs s false)) (he : xs.length = e) (ha : VR k (.rptr i e idx off) a)
    (hx : VR k y x) (hp : y.pure = true) (hsz : sizeT P t = some sz) (hl : y.cells.length = sz) (hset : setRow idx off y xs = some xs') :
    ∃ k', Step k k' ∧ k'.lo = k.lo ∧ k'.h = k.h.set i (.row xs' s false) ∧ (Instr.storeAt t a x).run P k.w = .ok () k'.w := by
  obtain ⟨x0, v', hx0, rfl, hv', hle⟩ := setRow_some hset hp
  have ha' : k.I (.rptr i e idx off) a := by
    cases ha with
    | pure h => cases h
    | atom h => exact h
  have haddr := (ha'.2.2 xs s false hi).2 he.symm
  subst haddr
  obtain ⟨⟨arr, ty, fr, cap, c1, c0, c2, c3, c4, c5⟩, c6, c7⟩ := hk.at_ (.o i) _ hi
  have hfr := c0 rfl
  subst hfr
  obtain ⟨x1, x2⟩ := cells_pure hx hp
  have hidx := (List.getElem?_eq_some_iff.1 hx0).1
  have h0s : x0.cells.length = s := c6 idx x0 hx0
  have hrow : idx * s + s ≤ xs.length * s := by
    have : (idx + 1) * s ≤ xs.length * s := Nat.mul_le_mul_right _ hidx
    rwa [Nat.succ_mul] at this
  have hcap : xs.length * s ≤ arr.size := Nat.le_trans (Nat.mul_le_mul_right _ c3) c4
  have hxl : x.cells.toList.length = y.cells.length := by rw [Array.length_toList, x1]
  have hfit : (idx * s + off) + x.cells.toList.length ≤ arr.size := by omega
  have hv's : v'.cells.length = s := by rw [hv', putCells_length hle, h0s]
  let k' : Ctx := { k with h := k.h.set i (.row (xs.set idx v') s false), w := k.w.setRow (k.pl (.o i)) (putArr (idx * s + off) x.cells.toList arr) }
  have hput : Put k k' (.o i) (.row xs s false) (.row (xs.set idx v') s false) := by
    refine ⟨hk, hi, ob_set hi _ _ _, rfl, rfl, fun _ _ => rfl, fun b hb => setRow_other _ _ _ _ hb, setRow_size _ _ _, fun _ _ _ => Iff.rfl, setRow_C _ (c7 rfl),
      I_set hi _ _ _ (fun cs1 fz e => by cases e) (fun xs1 sz1 fz1 e => ?_) (fun es e => by cases e) (fun _ _ => rfl)⟩
    simp only [Ob.row.injEq] at e
    obtain ⟨rfl, rfl, rfl⟩ := e
    exact ⟨xs, false, rfl, by simp, fun _ => rfl⟩
  have hszs : ∀ (j : Nat) (v : V), (xs.set idx v')[j]? = some v → v.cells.length = s := by
    intro j v hj
    rcases set_cases hj with rfl | hj
    · exact hv's
    · exact c6 j v hj
  refine ⟨k', ⟨hput.ext rfl rfl rfl, hput.keep ?_⟩, rfl, rfl, ?_⟩
  · refine ⟨⟨_, ty, (0, 0), cap, setRow_heap _ _ _ _ _ _ c1, fun _ => rfl, fun j hj => by rw [List.length_set]; exact c2 j hj, by rw [List.length_set]; exact c3, by rw [putArr_size hfit]; exact c4, fun j v m u hj hm => ?_⟩, hszs, fun _ => c7 rfl⟩
    have hms := (List.getElem?_eq_some_iff.1 hm).1
    rw [hszs j v hj] at hms
    rw [List.getElem?_set] at hj
    by_cases hji : idx = j
    · subst hji
      rw [if_pos rfl, if_pos hidx] at hj; simp only [Option.some.injEq] at hj; subst hj
      rw [hv', putCells_get hle] at hm
      rw [putArr_get hfit, hxl]
      by_cases m1 : m < off
      · rw [if_pos m1] at hm
        rw [if_pos (by omega)]
        obtain ⟨z, a1, a2, a3, _⟩ := c5 idx x0 m u hx0 hm
        exact ⟨z, a1, a2.mono hput.C, a3, fun h => by cases h⟩
      · rw [if_neg m1] at hm
        rw [if_neg (by omega)]
        by_cases m2 : m < off + y.cells.length
        · rw [if_pos m2] at hm
          rw [if_pos (by omega)]
          have e1 : idx * s + m - (idx * s + off) = m - off := by omega
          rw [e1]
          have hlt : m - off < x.cells.size := by omega
          obtain ⟨p1, p2⟩ := x2 (m - off) u x.cells[m - off] hm (by simp [hlt])
          exact ⟨x.cells[m - off], by simp [hlt], p1.mono hput.C, p2, fun h => by cases h⟩
        · rw [if_neg m2] at hm
          rw [if_neg (by omega)]
          obtain ⟨z, a1, a2, a3, _⟩ := c5 idx x0 m u hx0 hm
          exact ⟨z, a1, a2.mono hput.C, a3, fun h => by cases h⟩
    · rw [if_neg hji] at hj
      obtain ⟨z, a1, a2, a3, _⟩ := c5 j v m u hj hm
      refine ⟨z, ?_, a2.mono hput.C, a3, fun h => by cases h⟩
      rw [putArr_get hfit, hxl]
      rcases Nat.lt_or_gt_of_ne hji with hlt | hlt
      · have : (idx + 1) * s ≤ j * s := Nat.mul_le_mul_right _ hlt
        rw [Nat.succ_mul] at this
        rw [if_neg (by omega), if_neg (by omega)]; exact a1
      · have : (j + 1) * s ≤ idx * s := Nat.mul_le_mul_right _ hlt
        rw [Nat.succ_mul] at this
        rw [if_pos (by omega)]; exact a1
  · refine store_run hsz (by rw [x1, hl]) (fun z hz => ?_) c1 (by omega)
    obtain ⟨j, hj⟩ := List.mem_iff_getElem?.1 hz
    have hj2 : j < y.cells.length := by
      have := (List.getElem?_eq_some_iff.1 hj).1
      rw [hxl] at this; exact this
    exact (x2 j _ z (List.getElem?_eq_getElem hj2) (by simpa using hj)).2

/-! ### lists that are written out -/
theorem flat_set {xs : List V} {sz i : Nat} {v x0 : V} (h : ∀ (i : Nat) (v : V), xs[i]? = some v → v.cells.length = sz) (hi : xs[i]? = some x0) (hv : v.cells.length = sz) :
    flat (xs.set i v) = putCells (i * sz) v.cells (flat xs) := by
  have hidx := (List.getElem?_eq_some_iff.1 hi).1
  have hs : ∀ (j : Nat) (u : V), (xs.set i v)[j]? = some u → u.cells.length = sz := by
    intro j u hj
    rcases set_cases hj with rfl | hj
    · exact hv
    · exact h j u hj
  have hrow : i * sz + sz ≤ xs.length * sz := by
    have : (i + 1) * sz ≤ xs.length * sz := Nat.mul_le_mul_right _ hidx
    rwa [Nat.succ_mul] at this
  have hle : i * sz + v.cells.length ≤ (flat xs).length := by rw [flat_length h, hv]; exact hrow
  apply List.ext_getElem?
  intro n
  by_cases hn : n < xs.length * sz
  · have hsz : 0 < sz := by
      rcases Nat.eq_zero_or_pos sz with h0 | h0
      · subst h0; omega
      · exact h0
    have hm := Nat.mod_lt n hsz
    have e : n = n / sz * sz + n % sz := by rw [Nat.mul_comm]; exact (Nat.div_add_mod n sz).symm
    generalize n / sz = a at e
    generalize n % sz = b at e hm
    subst e
    rw [putCells_get hle, flat_get hs a b hm, hv, List.getElem?_set]
    by_cases ha : i = a
    · subst ha
      rw [if_pos rfl, if_pos hidx, if_neg (by omega), if_pos (by omega), Nat.add_sub_cancel_left]
    · rw [if_neg ha]
      rcases Nat.lt_or_gt_of_ne ha with hlt | hlt
      · have : (i + 1) * sz ≤ a * sz := Nat.mul_le_mul_right _ hlt
        rw [Nat.succ_mul] at this
        rw [if_neg (by omega), if_neg (by omega), flat_get h a b hm]
      · have : (a + 1) * sz ≤ i * sz := Nat.mul_le_mul_right _ hlt
        rw [Nat.succ_mul] at this
        rw [if_pos (by omega), flat_get h a b hm]
  · rw [List.getElem?_eq_none (by rw [flat_length hs, List.length_set]; omega), List.getElem?_eq_none (by rw [putCells_length hle, flat_length h]; omega)]
theorem fillRow_flat {sz : Nat} : ∀ (ix : List Nat) (vs xs xs' : List V), (∀ (i : Nat) (v : V), xs[i]? = some v → v.cells.length = sz) → fillRow sz xs ix vs = some xs' →
    fillCells (flat xs) (ix.map fun i => (i * sz, sz)) vs = some (flat xs') ∧ xs'.length = xs.length ∧ (∀ (i : Nat) (v : V), xs'[i]? = some v → v.cells.length = sz) ∧ ix.length = vs.length ∧
    ∀ (i : Nat) (v : V), xs'[i]? = some v → v ∈ xs ∨ v ∈ vs
  | [], [], xs, xs', h, hf => by
    simp only [fillRow, Option.some.injEq] at hf; subst hf
    exact ⟨rfl, rfl, h, rfl, fun i v hi => .inl (List.mem_of_getElem? hi)⟩
  | [], _ :: _, xs, xs', h, hf => by cases hf
  | _ :: _, [], xs, xs', h, hf => by cases hf
  | i :: ix, v :: vs, xs, xs', h, hf => by
    simp only [fillRow] at hf
    obtain ⟨hb, hf⟩ := bif_yes hf
    simp only [Bool.and_eq_true] at hb
    have hv := beq_nat hb.1
    have hi : i < xs.length := by simpa [Nat.blt_eq] using hb.2
    have hget := List.getElem?_eq_getElem hi
    have hs : ∀ (j : Nat) (u : V), (xs.set i v)[j]? = some u → u.cells.length = sz := by
      intro j u hj
      rcases set_cases hj with rfl | hj
      · exact hv
      · exact h j u hj
    obtain ⟨r1, r2, r3, r4, r5⟩ := fillRow_flat ix vs _ _ hs hf
    refine ⟨?_, by rw [r2, List.length_set], r3, by simp [r4], fun j u hj => ?_⟩
    · have hrow : i * sz + sz ≤ xs.length * sz := by
        have : (i + 1) * sz ≤ xs.length * sz := Nat.mul_le_mul_right _ hi
        rwa [Nat.succ_mul] at this
      have hc : (Nat.beq v.cells.length sz && Nat.ble (i * sz + sz) (flat xs).length) = true := by
        rw [Bool.and_eq_true]; exact ⟨hb.1, Nat.ble_eq_true_of_le (by rw [flat_length h]; exact hrow)⟩
      simp only [List.map_cons, fillCells, hc, cond_true]
      rw [← flat_set h hget hv]; exact r1
    · rcases r5 j u hj with h1 | h1
      · rcases List.mem_or_eq_of_mem_set h1 with h2 | h2
        · exact .inl h2
        · exact .inr (by rw [h2]; exact List.mem_cons_self)
      · exact .inr (List.mem_cons_of_mem _ h1)
/-- the cells of so many zeros -/
theorem zeros_rel {R : V → Value → Prop} {z : V} {zc : Array Value} {sz n : Nat} (hz : RG R z.cells zc) (hsz : z.cells.length = sz) :
    RG R (flat (List.replicate n z)) ((Array.range (n * sz)).map (zc[· % zc.size]!)) := by
  have hs : ∀ (i : Nat) (v : V), (List.replicate n z)[i]? = some v → v.cells.length = sz := by
    intro i v hi
    have := List.eq_of_mem_replicate (List.mem_of_getElem? hi)
    rw [this]; exact hsz
  have hzc : zc.size = sz := by rw [hz.1, hsz]
  refine ⟨by simp [flat_length hs], fun i u y hi hy => ?_⟩
  obtain ⟨a, v, j, rfl, hj, ha, hu⟩ := flat_at hs hi
  have hv := List.eq_of_mem_replicate (List.mem_of_getElem? ha)
  subst hv
  have hlt : a * sz + j < n * sz := by
    have := (List.getElem?_eq_some_iff.1 hi).1
    rw [flat_length hs, List.length_replicate] at this; exact this
  have hmod : (a * sz + j) % zc.size = j := by rw [hzc, Nat.mul_comm, Nat.mul_add_mod, Nat.mod_eq_of_lt hj]
  have hjz : j < zc.size := by omega
  rw [Array.getElem?_map, Array.getElem?_range, if_pos hlt] at hy
  simp only [Option.map_some, Option.some.injEq] at hy
  rw [hmod] at hy
  have : zc[j]! = zc[j] := by simp [hjz]
  rw [this] at hy
  exact hz.2 j u y hu (by rw [← hy]; simp [hjz])
end
end Go.Proofs.YthpggdlhoegndaaDoor.LM
