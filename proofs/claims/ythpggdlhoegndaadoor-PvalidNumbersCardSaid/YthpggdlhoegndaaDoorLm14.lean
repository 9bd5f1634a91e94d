/-
  Lists that are written out, make, maps, captured variables.
-/
import Derived.Test.YthpggdlhoegndaaDoorLm13
import Derived.MapKept
set_option linter.all false
namespace Go.Proofs.YthpggdlhoegndaaDoor.LM
open Go

section
variable {P : Program} {k : Ctx}

theorem pr_cells {C : Cell} {v : V} {x : Value} (h : PR C v x) (hu : v ≠ .undef) : x.cells.size = v.cells.length ∧ ∀ (j : Nat) (u : V) (y : Value), v.cells[j]? = some u → x.cells[j]? = some y → PR C u y := by
  have single : ∀ {v : V} {x : Value}, PR C v x → v.cells = [v] → x.cells = #[x] → x.cells.size = v.cells.length ∧ ∀ (j : Nat) (u : V) (y : Value), v.cells[j]? = some u → x.cells[j]? = some y → PR C u y := by
    intro v x h h1 h2
    rw [h1, h2]
    refine ⟨rfl, fun j u y hj hy => ?_⟩
    cases j with
    | zero => simp at hj hy; subst hj; subst hy; exact h
    | succ j => simp at hj
  cases v with
  | undef => exact absurd rfl hu
  | agg cs => cases h with
    | agg hl hc => exact ⟨hl, hc⟩
  | tuple cs =>
    refine single h rfl ?_
    cases h; rfl
  | _ => exact single h rfl (cells_one (pr_one h rfl))

/-! ### what has been stilled goes into cells -/
theorem calmCell_one {v v' : V} (h : calmCell v = some v') : v'.one = true := by
  have base : ∀ {v : V}, (bif v.pureIf then some v else none) = some v' → v'.one = true := by
    intro v h
    obtain ⟨hp, h⟩ := bif_yes h
    simp only [Option.some.injEq] at h; subst h; exact pureIf_one hp
  cases v <;> simp only [calmCell] at h <;> first
    | exact base h
    | (simp only [Option.some.injEq] at h; subst h; rfl)
theorem calm_one {v v' : V} (h : calm v = some v') : v'.cells.all V.one = true ∧ v' ≠ .undef := by
  have base : ∀ {v : V}, calmCell v = some v' → v'.cells.all V.one = true ∧ v' ≠ .undef := by
    intro v h
    have := calmCell_one h
    exact ⟨by rw [cells_single this]; simp [this], fun e => by subst e; cases this⟩
  cases v <;> simp only [calm] at h <;> first
    | exact base h
    | skip
  rename_i cs
  split at h
  · rename_i cs' e
    simp only [Option.some.injEq] at h; subst h
    obtain ⟨n1, p1⟩ := mapO_some e
    refine ⟨List.all_eq_true.2 fun u hu => ?_, fun h => by cases h⟩
    obtain ⟨i, hi⟩ := List.mem_iff_getElem?.1 (show u ∈ cs' from hu)
    have hlt : i < cs.length := by
      have := (List.getElem?_eq_some_iff.1 hi).1
      omega
    obtain ⟨b, hb, hi2⟩ := p1 i _ (List.getElem?_eq_getElem hlt)
    rw [hi] at hi2; simp only [Option.some.injEq] at hi2; subst hi2
    exact calmCell_one hb
  · cases h
theorem stillCell_one {h h' : HS} {v v' : V} (e : stillCell h v = some (v', h')) : v'.one = true := by
  have base : ∀ {v : V}, (bif v.pureIf then some (v, h) else none) = some (v', h') → v'.one = true := by
    intro v e
    obtain ⟨hp, e⟩ := bif_yes e
    simp only [Option.some.injEq, Prod.mk.injEq] at e; obtain ⟨rfl, _⟩ := e; exact pureIf_one hp
  cases v <;> simp only [stillCell] at e <;> first
    | exact base e
    | skip
  · split at e
    · obtain ⟨_, e⟩ := bif_yes e
      simp only [Option.some.injEq, Prod.mk.injEq] at e; obtain ⟨rfl, _⟩ := e; rfl
    · cases e
  · simp only [Option.some.injEq, Prod.mk.injEq] at e; obtain ⟨rfl, _⟩ := e; rfl
theorem stillCells_one : ∀ {vs vs' : List V} {h h' : HS}, stillCells h vs = some (vs', h') → vs'.all V.one = true
  | [], vs', h, h', e => by simp only [stillCells, Option.some.injEq, Prod.mk.injEq] at e; obtain ⟨rfl, _⟩ := e; rfl
  | v :: vs, vs', h, h', e => by
    simp only [stillCells] at e
    split at e
    · rename_i v1 h1 e1
      split at e
      · rename_i vs1 h2 e2
        simp only [Option.some.injEq, Prod.mk.injEq] at e; obtain ⟨rfl, _⟩ := e
        simp only [List.all_cons, stillCell_one e1, Bool.true_and]; exact stillCells_one e2
      · cases e
    · cases e
theorem still_one {h h' : HS} {v v' : V} (e : still h v = some (v', h')) : v'.cells.all V.one = true ∧ v' ≠ .undef := by
  have base : ∀ {v : V}, stillCell h v = some (v', h') → v'.cells.all V.one = true ∧ v' ≠ .undef := by
    intro v e
    have := stillCell_one e
    exact ⟨by rw [cells_single this]; simp [this], fun e => by subst e; cases this⟩
  cases v <;> simp only [still] at e <;> first
    | exact base e
    | skip
  split at e
  · rename_i cs' h1 e1
    simp only [Option.some.injEq, Prod.mk.injEq] at e; obtain ⟨rfl, _⟩ := e
    exact ⟨stillCells_one e1, fun h => by cases h⟩
  · cases e
theorem stills_one : ∀ {vs vs' : List V} {h h' : HS}, stills h vs = some (vs', h') → ∀ v ∈ vs', v.cells.all V.one = true ∧ v ≠ .undef
  | [], vs', h, h', e => by simp only [stills, Option.some.injEq, Prod.mk.injEq] at e; obtain ⟨rfl, _⟩ := e; simp
  | v :: vs, vs', h, h', e => by
    simp only [stills] at e
    split at e
    · rename_i v1 h1 e1
      split at e
      · rename_i vs1 h2 e2
        simp only [Option.some.injEq, Prod.mk.injEq] at e; obtain ⟨rfl, _⟩ := e
        intro u hu
        rcases List.mem_cons.1 hu with rfl | hu
        · exact still_one e1
        · exact stills_one e2 u hu
      · cases e
    · cases e
theorem calms_one {vs vs' : List V} (e : mapO calm vs = some vs') : ∀ v ∈ vs', v.cells.all V.one = true ∧ v ≠ .undef := by
  obtain ⟨n1, p1⟩ := mapO_some e
  intro v hv
  obtain ⟨i, hi⟩ := List.mem_iff_getElem?.1 hv
  have hlt : i < vs.length := by
    have := (List.getElem?_eq_some_iff.1 hi).1
    omega
  obtain ⟨b, hb, hi2⟩ := p1 i _ (List.getElem?_eq_getElem hlt)
  rw [hi] at hi2; simp only [Option.some.injEq] at hi2; subst hi2
  exact calm_one hb

/-- a cell that stays, of one cell's value -/
def PC (C : Cell) (v : V) (x : Value) : Prop := PR C v x ∧ x.oneCell' = true
theorem pc_cells {C : Cell} {v : V} {x : Value} (h : PR C v x) (ho : v.cells.all V.one = true) (hu : v ≠ .undef) :
    x.cells.size = v.cells.length ∧ ∀ (j : Nat) (u : V) (y : Value), v.cells[j]? = some u → x.cells[j]? = some y → PC C u y := by
  obtain ⟨h1, h2⟩ := pr_cells h hu
  exact ⟨h1, fun j u y hj hy => ⟨h2 j u y hj hy, pr_one (h2 j u y hj hy) (List.all_eq_true.1 ho u (List.mem_of_getElem? hj))⟩⟩
theorem zeroT_some {e : TypeId} {z : V} (h : zeroT P e = some z) : ∃ i v, P.info? e = some i ∧ i.zero = some v ∧ ofVal v = some z := by
  unfold zeroT at h
  split at h
  · rename_i i hi
    split at h
    · rename_i v hv; exact ⟨i, v, hi, hv, h⟩
    · cases h
  · cases h
theorem ofVal_undef {v : Value} {u : V} (h : ofVal v = some u) : u ≠ .undef := by
  intro e; subst e
  unfold ofVal at h
  split at h
  · split at h <;> cases h
  · unfold ofCell at h; split at h <;> cases h

/-! ### a list written out -/
theorem lit_run {C : Cell} {t e : TypeId} {n sz : Nat} {z : V} {ps : Array (Nat × Value)} {vs xs : List V} {w : World} (ht : P.underlying t = some (.slice e)) (hz : zeroT P e = some z) (hsz : sizeT P e = some sz)
    (hzl : z.cells.length = sz) (hn : n * sz ≤ 16777216) (hl : ps.size = vs.length)
    (hv : ∀ (i : Nat) (v : V) (x : Nat × Value), vs[i]? = some v → ps[i]? = some x → PR C v x.2 ∧ v.cells.all V.one = true ∧ v ≠ .undef)
    (hf : fillRow sz (List.replicate n z) (ps.toList.map (·.1)) vs = some xs) :
    ∃ arr, (Instr.buildSlice t n ps).run P w = .ok (.slice (some ⟨w.heap.size, 0, none⟩) n n) (w.alloc (.cells arr e)) ∧ RG (PC C) (flat xs) arr ∧ xs.length = n ∧ ∀ (i : Nat) (v : V), xs[i]? = some v → v.cells.length = sz := by
  obtain ⟨i, zv, hi, hiz, hzv⟩ := zeroT_some hz
  obtain ⟨i', hi', hisz⟩ := info_of_sizeT hsz
  rw [hi] at hi'; simp only [Option.some.injEq] at hi'; subst hi'
  have hs0 : ∀ (i : Nat) (v : V), (List.replicate n z)[i]? = some v → v.cells.length = sz := fun i v h => by
    rw [List.eq_of_mem_replicate (List.mem_of_getElem? h)]; exact hzl
  obtain ⟨f1, f2, f3, f4, _⟩ := fillRow_flat _ _ _ _ hs0 hf
  have hzr : RG (PC C) z.cells zv.cells := by
    obtain ⟨p1, p2⟩ := ofVal_pr (C := C) hzv
    exact pc_cells p1 p2 (ofVal_undef hzv)
  have h0 : RG (PC C) (flat (List.replicate n z)) (if n * sz = 0 then #[] else (Array.range (n * sz)).map (zv.cells[· % zv.cells.size]!)) := by
    by_cases hc : n * sz = 0
    · rw [if_pos hc]
      have : flat (List.replicate n z) = [] := List.eq_nil_of_length_eq_zero (by rw [flat_length hs0, List.length_replicate, hc])
      rw [this]; exact ⟨rfl, fun i v y h => by simp at h⟩
    · rw [if_neg hc]; exact zeros_rel hzr hzl
  obtain ⟨arr, ha, hra⟩ := fill_rel (R := PC C) (fun i => some (i * sz, sz)) ps.toList _ vs _ _ _ h0 (by
      have : ∀ l : List Nat, mapO (fun i => some (i * sz, sz)) l = some (l.map fun i => (i * sz, sz)) := by
        intro l; induction l with
        | nil => rfl
        | cons a l ih => simp only [mapO, ih, List.map_cons]
      exact this _) (by rw [Array.length_toList]; exact hl) (fun j v x hj hx => by
      obtain ⟨p1, p2, p3⟩ := hv j v x hj (by simpa using hx)
      exact pc_cells p1 p2 p3) f1
  refine ⟨arr, ?_, hra, by rw [f2, List.length_replicate], f3⟩
  have hnot : ¬ (16777216 < n * sz) := by omega
  by_cases hc : n * sz = 0
  · rw [if_pos hc] at ha
    have e0 : (Array.map (fun (_ : Nat) => (default : Value)) (Array.range 0)) = #[] := by simp
    have e1 : Instr.fill (fun i => some (i * sz, sz)) (Array.map (fun (_ : Nat) => (default : Value)) (Array.range 0)) ps.toList = some arr := by rw [e0]; exact ha
    simp only [Instr.buildSlice, Sem.run_bind, run_underlying ht, Result.andThen_ok, sizeT_some hsz, hc, Sem.run_ite, Sem.run_pure]
    simp [e1, ha, newRow]
  · rw [if_neg hc] at ha
    simp only [Instr.buildSlice, Sem.run_bind, run_underlying ht, Result.andThen_ok, sizeT_some hsz, Sem.run_ite, Sem.run_pure]
    have h24 : ¬ (n * sz > 2 ^ 24) := by omega
    simp only [if_neg h24, if_neg hc, Result.andThen_ok, Sem.run_pure]
    simp [zeroValue, typeInfo, hi, hiz, ha, newRow]
theorem elems_of_flat {xs : List V} {sz : Nat} {arr : Array Value} (hs : ∀ (i : Nat) (v : V), xs[i]? = some v → v.cells.length = sz) (h : RG (PC k.C) (flat xs) arr) : ElemsAt k xs sz arr := by
  intro i v j u hi hj
  have hj2 := (List.getElem?_eq_some_iff.1 hj).1
  rw [hs i v hi] at hj2
  have hf : (flat xs)[i * sz + j]? = some u := by rw [flat_get hs i j hj2, hi]; exact hj
  have hlt : i * sz + j < arr.size := by rw [h.1]; exact (List.getElem?_eq_some_iff.1 hf).1
  obtain ⟨p1, p2⟩ := h.2 _ u arr[i * sz + j] hf (by simp [hlt])
  exact ⟨arr[i * sz + j], by simp [hlt], p1, p2⟩
/-- it stays as it is -/
theorem lit_new {xs : List V} {sz : Nat} {arr : Array Value} {e : TypeId} (hk : OK k) (hs : ∀ (i : Nat) (v : V), xs[i]? = some v → v.cells.length = sz) (h : RG (PC k.C) (flat xs) arr) :
    Step k (k.grow arr e) ∧ PR (k.grow arr e).C (.slice xs true) (.slice (some ⟨k.w.heap.size, 0, none⟩) xs.length xs.length) := by
  refine ⟨⟨ext_grow arr e, ok_grow hk arr e⟩, ?_⟩
  have el := elems_of_flat hs h
  refine .slice (sz := sz) (b := k.w.heap.size) (o := 0) (vals := fun n => arr.getD n .nilIface) (Nat.le_refl _) (fun _ => rfl) (fun _ => rfl) hs (fun i v j u hi hj => ?_) (fun i v j u hi hj => ?_)
  · obtain ⟨y, a1, a2, a3⟩ := el i v j u hi hj
    rw [Nat.zero_add, arr_getD a1]; exact C_grow_new a1
  · obtain ⟨y, a1, a2, a3⟩ := el i v j u hi hj
    simp only [arr_getD a1]; exact a2.mono C_grow

/-! ### make -/
theorem mkslice_run {t e : TypeId} {sz bytes : Nat} {z : V} {l : Int} {k1 k2 : IntKind} {w : World} (ht : P.underlying t = some (.slice e)) (hz : zeroT P e = some z) (hsz : sizeT P e = some sz) (hby : bytesT P e = some bytes)
    (hzl : z.cells.length = sz) (h0 : 0 ≤ l) (hfit : l * bytes ≤ 1099511627776) (h63 : l ≤ 9223372036854775807) :
    ∃ arr, (Instr.makeSlice t (.int k1 l) (.int k2 l)).run P w = .ok (.slice (some ⟨w.heap.size, 0, none⟩) l.toNat l.toNat) (w.alloc (.cells arr e)) ∧ RG (PC k.C) (flat (List.replicate l.toNat z)) arr := by
  obtain ⟨i, zv, hi, hiz, hzv⟩ := zeroT_some hz
  obtain ⟨i', hi', hisz⟩ := info_of_sizeT hsz
  rw [hi] at hi'; simp only [Option.some.injEq] at hi'; subst hi'
  have hib : i.bytes = bytes := by
    unfold bytesT at hby; rw [hi] at hby; simpa using hby
  have hzr : RG (PC k.C) z.cells zv.cells := by
    obtain ⟨p1, p2⟩ := ofVal_pr (C := k.C) hzv
    exact pc_cells p1 p2 (ofVal_undef hzv)
  have hcomm : (i.bytes : Int) * l ≤ 281474976710656 := by rw [hib, Int.mul_comm]; omega
  have hr := run_make (P := P) w t e i zv ht hi hiz k1 k2 l l h0 (Int.le_refl _) hcomm h63
  refine ⟨_, hr, ?_⟩
  rw [hisz]
  exact zeros_rel hzr hzl
end
end Go.Proofs.YthpggdlhoegndaaDoor.LM
