/-
  STEPS OF THE LOGICAL STATE: a new block, a store, a row that grows, what is stilled: each keeps what is meant.
-/
import Derived.Test.YthpggdlhoegndaaDoorLm3
set_option linter.all false
namespace Go.Proofs.YthpggdlhoegndaaDoor.LM
open Go

theorem pr_cell {k : Ctx} {v : V} {x : Value} (h : VR k v x) (hp : v.pureCell = true) : PR k.C v x := by
  cases h with
  | pure h => exact h
  | atom h => cases v <;> first | exact h.elim | cases hp
  | func hl _ => cases hp
  | iface _ => cases hp
  | agg hl _ => cases hp
  | tuple hl _ => cases hp
theorem pr_all {k : Ctx} {cs : List V} {cs' : Array Value} (hp : ∀ (i : Nat) (v : V) (x : Value), cs[i]? = some v → cs'[i]? = some x → VR k v x) (h : cs.all V.pureCell = true) :
    ∀ (i : Nat) (v : V) (x : Value), cs[i]? = some v → cs'[i]? = some x → PR k.C v x :=
  fun i v x hi hx => pr_cell (hp i v x hi hx) (List.all_eq_true.1 h v (List.mem_of_getElem? hi))
theorem pr_agg {k : Ctx} {cs : List V} {x : Value} (h : VR k (.agg cs) x) (hp : ∀ (i : Nat) (v : V) (y : Value), cs[i]? = some v → VR k v y → PR k.C v y) : PR k.C (.agg cs) x := by
  cases h with
  | pure h => exact h
  | atom h => exact h.elim
  | agg hl hc => exact .agg hl fun i v y hi hy => hp i v y hi (hc i v y hi hy)
theorem pr_if {k : Ctx} {v : V} {x : Value} (h : VR k v x) (hp : v.pureIf = true) : PR k.C v x := by
  cases h with
  | pure h => exact h
  | atom h => cases v <;> first | exact h.elim | (simp [V.pureIf, V.pureCell] at hp)
  | func hl hc => exact .func hl (pr_all hc hp)
  | iface h =>
    rename_i t v x
    refine .iface ?_
    cases v <;> first
      | exact pr_cell h hp
      | exact pr_agg h fun i v y hi hy => pr_cell hy (List.all_eq_true.1 hp v (List.mem_of_getElem? hi))
  | agg hl _ => simp [V.pureIf, V.pureCell] at hp
  | tuple hl _ => simp [V.pureIf, V.pureCell] at hp
theorem pr_pure {k : Ctx} {v : V} {x : Value} (h : VR k v x) (hp : v.pure = true) : PR k.C v x := by
  cases v <;> first
    | exact pr_if h hp
    | exact pr_agg h fun i v y hi hy => pr_if hy (List.all_eq_true.1 hp v (List.mem_of_getElem? hi))

/-! ### what stays of an object when other things turn -/
theorem cellsAt_keep {k k' : Ctx} (hC : ∀ b o x, k.C b o x → k'.C b o x) (hI : ∀ v x, k.I v x → k'.I v x) {b : Nat} {cs : List V} (h : cellsAt k b cs) (hh : k'.w.heap[b]? = k.w.heap[b]?) : cellsAt k' b cs := by
  obtain ⟨arr, ty, h1, h2, h3⟩ := h
  exact ⟨arr, ty, hh.trans h1, h2, fun j v x hj hx => ⟨(h3 j v x hj hx).1.mono hC hI, (h3 j v x hj hx).2⟩⟩
theorem objAt_keep {k k' : Ctx} (hC : ∀ b o x, k.C b o x → k'.C b o x) (hI : ∀ v x, k.I v x → k'.I v x) {q : Key} {o : Ob} (h : objAt k q o) (hpl : k'.pl q = k.pl q)
    (hh : k'.w.heap[k.pl q]? = k.w.heap[k.pl q]?) (hr : ∀ i, q = .o i → k'.rho i = k.rho i) (hS : ∀ o, k'.S (k.pl q) o ↔ k.S (k.pl q) o) : objAt k' q o := by
  cases o with
  | cells cs fz =>
    simp only [objAt, hpl] at h ⊢
    exact ⟨cellsAt_keep hC hI h.1 hh, fun hf o => fun hs => h.2 hf o ((hS o).1 hs)⟩
  | row xs sz fz =>
    simp only [objAt, hpl] at h ⊢
    obtain ⟨⟨arr, ty, fr, cap, h1, hfr, h2, h3, h4, h5⟩, h6, h7⟩ := h
    refine ⟨⟨arr, ty, fr, cap, hh.trans h1, hfr, fun i hi => (hr i hi).trans (h2 i hi), h3, h4, fun i v j u hi hj => ?_⟩, h6, fun hf o hs => h7 hf o ((hS o).1 hs)⟩
    obtain ⟨x, a1, a2, a3, a4⟩ := h5 i v j u hi hj
    exact ⟨x, a1, a2.mono hC, a3, fun hf => (hS _).2 (a4 hf)⟩
  | map es =>
    simp only [objAt, hpl] at h ⊢
    obtain ⟨⟨ents, clock, h1, h2, h3⟩, h4⟩ := h
    exact ⟨⟨ents, clock, hh.trans h1, h2, fun i key v ent hi he => ⟨(h3 i key v ent hi he).1, (h3 i key v ent hi he).2.mono hC⟩⟩, fun o hs => h4 o ((hS o).1 hs)⟩

/-! ### a draw -/
def Ctx.drew (k : Ctx) : Ctx := { k with w := k.w.drew }
theorem ok_drew {k : Ctx} (h : OK k) : OK k.drew := ⟨h.lt, h.low, h.place, fun q o ho => objAt_keep (k := k) (k' := k.drew) (fun _ _ _ x => x) (fun v x hv => by cases v <;> exact hv) (h.at_ q o ho) rfl rfl (fun _ _ => rfl) (fun _ => Iff.rfl), h.inj⟩
theorem ext_drew (k : Ctx) : Ext k k.drew := ⟨rfl, rfl, rfl, Nat.le_refl _, fun _ _ _ h => h, fun v x hv => by cases v <;> exact hv, fun _ _ _ => ⟨rfl, fun _ h => h⟩, fun _ _ h => h⟩

/-! ### a new block that stays as it is -/
def Ctx.grow (k : Ctx) (arr : Array Value) (ty : TypeId) (fr : Nat × Nat := (0, 0)) : Ctx :=
  { k with w := k.w.alloc (.cells arr ty fr), S := fun b o => k.S b o ∨ (b = k.w.heap.size ∧ o < arr.size) }
theorem cell_alloc {w : World} {o : Go.Obj} {b i : Nat} {x : Value} (h : w.cell? ⟨b, i, none⟩ = some x) : (w.alloc o).cell? ⟨b, i, none⟩ = some x := by
  have hb : b < w.heap.size := World.block_lt_of_cell? w _ h
  rw [World.cell?_alloc_lt _ _ _ hb]; exact h
theorem C_grow {k : Ctx} {arr : Array Value} {ty : TypeId} {fr : Nat × Nat} (b o : Nat) (x : Value) (h : k.C b o x) : (k.grow arr ty fr).C b o x := ⟨.inl h.1, cell_alloc h.2⟩
theorem C_grow_new {k : Ctx} {arr : Array Value} {ty : TypeId} {fr : Nat × Nat} {o : Nat} {x : Value} (h : arr[o]? = some x) : (k.grow arr ty fr).C k.w.heap.size o x := by
  refine ⟨.inr ⟨rfl, ?_⟩, ?_⟩
  · exact (Array.getElem?_eq_some_iff.1 h).1
  · show (k.w.alloc _).cell? _ = _
    rw [cell_of_row _ _ _ _ _ _ (heap_alloc_new _ _)]; exact h
theorem I_grow {k : Ctx} {arr : Array Value} {ty : TypeId} {fr : Nat × Nat} (v : V) (x : Value) (h : k.I v x) : (k.grow arr ty fr).I v x := by cases v <;> exact h
theorem ok_grow {k : Ctx} (h : OK k) (arr : Array Value) (ty : TypeId) (fr : Nat × Nat := (0, 0)) : OK (k.grow arr ty fr) where
  lt := fun b o hs => by
    show b < (k.w.alloc _).heap.size
    rw [World.size_alloc]
    rcases hs with hs | hs
    · have := h.lt b o hs; omega
    · omega
  low := h.low
  place := fun q o ho => by
    show k.pl q < (k.w.alloc _).heap.size
    rw [World.size_alloc]; have := h.place q o ho; omega
  at_ := fun q o ho => by
    have hp := h.place q o ho
    refine objAt_keep C_grow I_grow (h.at_ q o ho) rfl ?_ (fun _ _ => rfl) (fun o => ⟨fun hs => ?_, fun hs => .inl hs⟩)
    · exact heap_alloc_old _ _ _ hp
    · rcases hs with hs | hs
      · exact hs
      · omega
  inj := h.inj
theorem ext_grow {k : Ctx} (arr : Array Value) (ty : TypeId) (fr : Nat × Nat := (0, 0)) : Ext k (k.grow arr ty fr) where
  os := rfl
  tape := rfl
  output := rfl
  size := by show _ ≤ (k.w.alloc _).heap.size; rw [World.size_alloc]; omega
  C := C_grow
  I := I_grow
  frame := fun b hb _ => ⟨heap_alloc_old _ _ _ hb, fun o hs => by
    rcases hs with hs | hs
    · exact hs
    · omega⟩
  own := fun b _ h => h

/-! ### a new local variable -/
def upd (f : Key → Nat) (q : Key) (b : Nat) : Key → Nat := fun r => if r = q then b else f r
theorem upd_same (f : Key → Nat) (q : Key) (b : Nat) : upd f q b q = b := if_pos rfl
theorem upd_other {f : Key → Nat} {q r : Key} {b : Nat} (h : r ≠ q) : upd f q b r = f r := if_neg h
def Ctx.newLoc (k : Ctx) (d g : Nat) (z : List V) (arr : Array Value) (ty : TypeId) : Ctx :=
  { k with w := k.w.alloc (.cells arr ty), pl := upd k.pl (.l d) k.w.heap.size, lo := k.lo.set d (g + 1, z) }
section
variable {k : Ctx} {d g : Nat} {cs z : List V} {arr : Array Value} {ty : TypeId}
theorem C_newLoc (b o : Nat) (x : Value) (h : k.C b o x) : (k.newLoc d g z arr ty).C b o x := ⟨h.1, cell_alloc h.2⟩
theorem I_newLoc (hd : k.lo[d]? = some (g, cs)) (v : V) (x : Value) (h : k.I v x) : (k.newLoc d g z arr ty).I v x := by
  cases v <;> try exact h
  · rename_i t g1 off
    obtain ⟨hone, g', cs', h1, h2, h3, h4⟩ := h
    have hlt : d < k.lo.length := (List.getElem?_eq_some_iff.1 hd).1
    by_cases htd : t = d
    · subst htd
      rw [hd] at h1; simp only [Option.some.injEq, Prod.mk.injEq] at h1; obtain ⟨rfl, rfl⟩ := h1
      exact ⟨hone, g + 1, z, by simp [Ctx.newLoc, hlt], h2, by omega, fun e => by omega⟩
    · refine ⟨hone, g', cs', by simp [Ctx.newLoc, Ne.symm htd, h1], h2, h3, fun e => ?_⟩
      have := h4 e
      simp only [Ctx.newLoc, upd_other (show Key.l t ≠ Key.l d from fun e => htd (by injection e))]
      exact this
theorem ob_newLoc (hd : k.lo[d]? = some (g, cs)) (q : Key) : (k.newLoc d g z arr ty).ob q = if q = .l d then some (.cells z false) else k.ob q := by
  have hlt : d < k.lo.length := (List.getElem?_eq_some_iff.1 hd).1
  cases q with
  | o i => simp [Ctx.ob, Ctx.newLoc]
  | l t =>
    by_cases htd : t = d
    · subst htd; simp [Ctx.ob, Ctx.newLoc, hlt]
    · simp [Ctx.ob, Ctx.newLoc, Ne.symm htd, htd]
theorem ok_newLoc (h : OK k) (hd : k.lo[d]? = some (g, cs)) (hsz : arr.size = z.length)
    (hz : ∀ (j : Nat) (v : V) (x : Value), z[j]? = some v → arr[j]? = some x → VR k v x ∧ x.oneCell' = true) : OK (k.newLoc d g z arr ty) where
  lt := fun b o hs => by
    show b < (k.w.alloc _).heap.size
    rw [World.size_alloc]; have := h.lt b o hs; omega
  low := h.low
  place := fun q o ho => by
    show upd k.pl (.l d) k.w.heap.size q < (k.w.alloc _).heap.size
    rw [World.size_alloc]
    rw [ob_newLoc hd] at ho
    by_cases hq : q = .l d
    · subst hq; rw [upd_same]; omega
    · rw [if_neg hq] at ho; rw [upd_other hq]; have := h.place q o ho; omega
  at_ := fun q o ho => by
    rw [ob_newLoc hd] at ho
    by_cases hq : q = .l d
    · subst hq
      simp only [if_pos, Option.some.injEq] at ho
      subst ho
      simp only [objAt]
      have hpl : (k.newLoc d g z arr ty).pl (.l d) = k.w.heap.size := upd_same _ _ _
      rw [hpl]
      refine ⟨⟨arr, ty, heap_alloc_new _ _, hsz, fun j v x hj hx => ⟨(hz j v x hj hx).1.mono C_newLoc (I_newLoc hd), (hz j v x hj hx).2⟩⟩, fun _ o hs => ?_⟩
      have := h.lt _ _ hs; omega
    · rw [if_neg hq] at ho
      have hp := h.place q o ho
      exact objAt_keep C_newLoc (I_newLoc hd) (h.at_ q o ho) (upd_other hq) (heap_alloc_old _ _ _ hp) (fun _ _ => rfl) (fun _ => Iff.rfl)
  inj := fun q r o p hq hr he => by
    rw [ob_newLoc hd] at hq hr
    have he' : upd k.pl (.l d) k.w.heap.size q = upd k.pl (.l d) k.w.heap.size r := he
    by_cases h1 : q = .l d
    · by_cases h2 : r = .l d
      · rw [h1, h2]
      · rw [if_neg h2] at hr
        rw [h1, upd_same, upd_other h2] at he'
        have := h.place r p hr; omega
    · rw [if_neg h1] at hq
      by_cases h2 : r = .l d
      · rw [h2, upd_same, upd_other h1] at he'
        have := h.place q o hq; omega
      · rw [if_neg h2] at hr
        rw [upd_other h1, upd_other h2] at he'
        exact h.inj q r o p hq hr he'
theorem ext_newLoc (hd : k.lo[d]? = some (g, cs)) : Ext k (k.newLoc d g z arr ty) where
  os := rfl
  tape := rfl
  output := rfl
  size := by show _ ≤ (k.w.alloc _).heap.size; rw [World.size_alloc]; omega
  C := C_newLoc
  I := I_newLoc hd
  frame := fun b hb _ => ⟨heap_alloc_old _ _ _ hb, fun o hs => hs⟩
  own := fun b hb ⟨q, o, ho, he⟩ => by
    rw [ob_newLoc hd] at ho
    by_cases hq : q = .l d
    · subst hq
      have : (k.newLoc d g z arr ty).pl (.l d) = k.w.heap.size := upd_same _ _ _
      omega
    · rw [if_neg hq] at ho
      exact ⟨q, o, ho, (upd_other (f := k.pl) (b := k.w.heap.size) hq).symm.trans he⟩
theorem I_newLoc_new (hd : k.lo[d]? = some (g, cs)) : (k.newLoc d g z arr ty).I (.loc d (g + 1) 0) (.pointer (some ⟨k.w.heap.size, 0, none⟩)) := by
  have hlt : d < k.lo.length := (List.getElem?_eq_some_iff.1 hd).1
  exact ⟨⟨_, _, rfl⟩, g + 1, z, by simp [Ctx.newLoc, hlt], by omega, Nat.le_refl _, fun _ => by simp [Ctx.newLoc, upd_same]⟩
end
end Go.Proofs.YthpggdlhoegndaaDoor.LM
