/-
  ROWS: new ones, what is put behind them, their elements written over.
-/
import Derived.Test.YthpggdlhoegndaaDoorLm10
set_option linter.all false
namespace Go.Proofs.YthpggdlhoegndaaDoor.LM
open Go

/-! ### lists of elements, cell by cell -/
def flat (xs : List V) : List V := xs.flatMap V.cells
theorem flat_get : ∀ {xs : List V} {sz : Nat}, (∀ (i : Nat) (v : V), xs[i]? = some v → v.cells.length = sz) → ∀ (i j : Nat), j < sz → (flat xs)[i * sz + j]? = match xs[i]? with
    | some v => v.cells[j]?
    | none => none
  | [], sz, _, i, j, _ => by simp [flat]
  | v :: xs, sz, h, i, j, hj => by
    have hv : v.cells.length = sz := h 0 v rfl
    have hr : ∀ (i : Nat) (v : V), xs[i]? = some v → v.cells.length = sz := fun i v hi => h (i + 1) v (by simpa using hi)
    have e : flat (v :: xs) = v.cells ++ flat xs := by simp [flat]
    rw [e]
    cases i with
    | zero => rw [Nat.zero_mul, Nat.zero_add, List.getElem?_append_left (by omega)]; rfl
    | succ i =>
      rw [List.getElem?_append_right (by rw [hv, Nat.succ_mul]; omega), hv]
      have e2 : (i + 1) * sz + j - sz = i * sz + j := by rw [Nat.succ_mul]; omega
      rw [e2, flat_get hr i j hj]; rfl
theorem flat_length : ∀ {xs : List V} {sz : Nat}, (∀ (i : Nat) (v : V), xs[i]? = some v → v.cells.length = sz) → (flat xs).length = xs.length * sz
  | [], sz, _ => by simp [flat]
  | v :: xs, sz, h => by
    have e : flat (v :: xs) = v.cells ++ flat xs := by simp [flat]
    rw [e, List.length_append, h 0 v rfl, flat_length (fun i v hi => h (i + 1) v (by simpa using hi)), List.length_cons, Nat.succ_mul]; omega
/-- every cell of a row stands at some element -/
theorem flat_at {xs : List V} {sz : Nat} (h : ∀ (i : Nat) (v : V), xs[i]? = some v → v.cells.length = sz) {n : Nat} {u : V} (hn : (flat xs)[n]? = some u) :
    ∃ i v j, n = i * sz + j ∧ j < sz ∧ xs[i]? = some v ∧ v.cells[j]? = some u := by
  have hlt := (List.getElem?_eq_some_iff.1 hn).1
  rw [flat_length h] at hlt
  have hsz : 0 < sz := by
    rcases Nat.eq_zero_or_pos sz with h0 | h0
    · subst h0; omega
    · exact h0
  have hdm := Nat.div_add_mod n sz
  have hm := Nat.mod_lt n hsz
  have e : n = n / sz * sz + n % sz := by rw [Nat.mul_comm]; exact hdm.symm
  rw [e, flat_get h _ _ hm] at hn
  split at hn
  · rename_i v hv; exact ⟨_, v, _, e, hm, hv, hn⟩
  · cases hn

section
variable {P : Program} {k : Ctx}

/-- elements, read as cells from a place on -/
def ElemsAt (k : Ctx) (xs : List V) (sz : Nat) (arr : Array Value) : Prop :=
  ∀ (i : Nat) (v : V) (j : Nat) (u : V), xs[i]? = some v → v.cells[j]? = some u → ∃ y, arr[i * sz + j]? = some y ∧ PR k.C u y ∧ y.oneCell' = true

theorem new_row {xs : List V} {sz cap : Nat} {arr : Array Value} {ty : TypeId} (hk : OK k) (hcap : xs.length ≤ cap) (harr : cap * sz ≤ arr.size) (hsz : ∀ (i : Nat) (v : V), xs[i]? = some v → v.cells.length = sz)
    (hc : ElemsAt k xs sz arr) :
    Step k (k.newOb (.row xs sz false) (.slice (some ⟨k.w.heap.size, 0, none⟩) xs.length cap) (.cells arr ty)) ∧
    VR (k.newOb (.row xs sz false) (.slice (some ⟨k.w.heap.size, 0, none⟩) xs.length cap) (.cells arr ty)) (.row k.h.c xs.length) (.slice (some ⟨k.w.heap.size, 0, none⟩) xs.length cap) := by
  have hpl : (k.newOb (.row xs sz false) (.slice (some ⟨k.w.heap.size, 0, none⟩) xs.length cap) (.cells arr ty)).pl (.o k.h.c) = k.w.heap.size := upd_same _ _ _
  refine ⟨⟨ext_newOb, ok_newOb hk ?_⟩, .atom ⟨⟨_, _, rfl⟩, Nat.lt_succ_self _, fun xs' sz' fz' hg => ?_⟩⟩
  · refine ⟨⟨arr, ty, (0, 0), cap, ?_, fun _ => rfl, fun i hi => ?_, hcap, harr, fun i v j u hi hj => ?_⟩, hsz, fun _ o hs => ?_⟩
    · rw [hpl]; exact heap_alloc_new _ _
    · rw [hpl]; injection hi with hi; subst hi; exact if_pos rfl
    · obtain ⟨y, a1, a2, a3⟩ := hc i v j u hi hj
      exact ⟨y, a1, a2.mono C_newOb, a3, fun h => by cases h⟩
    · rw [hpl] at hs; have := hk.lt _ _ hs; omega
  · have h1 : (k.h.new (.row xs sz false)).get k.h.c = some (.row xs' sz' fz') := hg
    rw [HS.get_new_same] at h1
    simp only [Option.some.injEq, Ob.row.injEq] at h1
    obtain ⟨rfl, rfl, rfl⟩ := h1
    exact ⟨Nat.le_refl _, fun _ => (if_pos rfl).symm⟩

/-! ### what is put behind: the machine -/
theorem append_grow {t u ty e : TypeId} {i : TypeInfo} {z : Value} {d : TypeDesc} (ht : P.underlying t = some (.slice e)) (hu : P.underlying u = some d) (hd : d = .string ∨ ∃ e', d = .slice e') (hi : P.info? e = some i) (hz : i.zero = some z)
    {base : Option Addr} {sLen sCap n : Nat} {x : Value} {w : World} (hn : ∀ W, (Builtin.lenOf x).run P W = .ok n W) {olds news : Array Value}
    (ho : (Builtin.firstCells i.size sLen (.slice base sLen sCap)).run P w.drew = .ok olds w.drew) (hw : (Builtin.firstCells i.size n x).run P w.drew = .ok news w.drew)
    (hg : sCap < sLen + n) (hby : i.bytes ≠ 0) (hfit : (sLen + n) * i.bytes ≤ 140737488355328) :
    (Builtin.append_ #[t, u] ty #[.slice base sLen sCap, x]).run P w =
      .ok (.slice (some ⟨w.heap.size, 0, none⟩) (sLen + n) (grownCap w (sLen + n) sCap e)) (w.drew.alloc (.cells (olds ++ news ++ Builtin.zeroCells z.cells (grownCap w (sLen + n) sCap e - (sLen + n))) e)) := by
  have h1 : ¬ (sLen + n ≤ sCap) := by omega
  have h2 : ¬ (281474976710656 < Builtin.nextslicecap (sLen + n) sCap * i.bytes) := by
    have := growslice_fits hg hfit; omega
  rcases hd with rfl | ⟨e', rfl⟩ <;> simp [Builtin.append_, run_underlying ht, run_underlying hu, sizeOf, typeInfo, zeroValue, hi, hz, hn, h1, h2, hby, Question.forced, ho, hw, newRow, grownCap]
theorem append_room {t u ty e te : TypeId} {i : TypeInfo} {d : TypeDesc} (ht : P.underlying t = some (.slice e)) (hu : P.underlying u = some d) (hd : d = .string ∨ ∃ e', d = .slice e') (hi : P.info? e = some i)
    {g sLen sCap n : Nat} {x : Value} {w : World} {cur : Array Value} (hn : ∀ W, (Builtin.lenOf x).run P W = .ok n W) {news : List Value}
    (hw : (Builtin.firstCells i.size n x).run P w = .ok news.toArray w) (hr : sLen + n ≤ sCap) (hg : w.heap[g]? = some (.cells cur te (0, 0))) (hfit : sLen * i.size + news.length ≤ cur.size) (h1 : ∀ y ∈ news, y.oneCell' = true) :
    (Builtin.append_ #[t, u] ty #[.slice (some ⟨g, 0, none⟩) sLen sCap, x]).run P w = .ok (.slice (some ⟨g, 0, none⟩) (sLen + n) sCap) (w.setRow g (putArr (sLen * i.size) news cur)) := by
  have hst := run_storeCells_at P g (sLen * i.size) te news 0 cur w hg (by omega) h1
  simp only [Nat.add_zero] at hst
  rcases hd with rfl | ⟨e', rfl⟩ <;> simp [Builtin.append_, run_underlying ht, run_underlying hu, sizeOf, typeInfo, hi, hn, hr, hw, add_none, hst, putArr]
theorem append_none {t u ty e : TypeId} {sz : Nat} {d : TypeDesc} (ht : P.underlying t = some (.slice e)) (hu : P.underlying u = some d) (hd : d = .string ∨ ∃ e', d = .slice e') (hsz : sizeT P e = some sz)
    {base : Option Addr} {sLen sCap : Nat} {x : Value} {w : World} (hn : ∀ W, (Builtin.lenOf x).run P W = .ok 0 W) (hw : (Builtin.firstCells sz 0 x).run P w = .ok #[] w) (hr : sLen ≤ sCap) :
    (Builtin.append_ #[t, u] ty #[.slice base sLen sCap, x]).run P w = .ok (.slice base sLen sCap) w := by
  rcases hd with rfl | ⟨e', rfl⟩ <;> cases base <;> simp [Builtin.append_, run_underlying ht, run_underlying hu, sizeT_some hsz, hn, hr, hw, storeCells]

/-- what can be put behind a row: its cells, in whatever world has this memory -/
structure Src (P : Program) (k : Ctx) (x : Value) (ys : List V) (sz : Nat) (news : List Value) : Prop where
  len : ∀ W, (Builtin.lenOf x).run P W = .ok ys.length W
  size : news.length = ys.length * sz
  cells : ∀ W : World, W.heap = k.w.heap → (Builtin.firstCells sz ys.length x).run P W = .ok news.toArray W
  el : ElemsAt k ys sz news.toArray
  one : ∀ y ∈ news, y.oneCell' = true
  sz : ∀ (i : Nat) (v : V), ys[i]? = some v → v.cells.length = sz

theorem cell?_heap {w w' : World} (h : w'.heap = w.heap) (a : Addr) : w'.cell? a = w.cell? a := by simp [World.cell?, h]

/-- out of cells that are known one by one -/
theorem src_slice {ys : List V} {sz b o cap : Nat} {a : Option Addr} (ha : 0 < ys.length → a = some ⟨b, o, none⟩) (hsz : ∀ (i : Nat) (v : V), ys[i]? = some v → v.cells.length = sz)
    (f : Nat → Value) (hc : ∀ (i : Nat) (v : V) (j : Nat) (u : V), ys[i]? = some v → v.cells[j]? = some u → k.w.cell? ⟨b, o + (i * sz + j), none⟩ = some (f (i * sz + j)) ∧ PR k.C u (f (i * sz + j)) ∧ (f (i * sz + j)).oneCell' = true) :
    Src P k (.slice a ys.length cap) ys sz ((List.range (ys.length * sz)).map f) := by
  have hat : ∀ n, n < ys.length * sz → ∃ i v j u, n = i * sz + j ∧ ys[i]? = some v ∧ v.cells[j]? = some u := by
    intro n hn
    have : n < (flat ys).length := by rw [flat_length hsz]; exact hn
    obtain ⟨i, v, j, e, _, hi, hj⟩ := flat_at hsz (List.getElem?_eq_getElem this)
    exact ⟨i, v, j, _, e, hi, hj⟩
  refine ⟨fun W => by simp [Builtin.lenOf], by simp, fun W hW => ?_, fun i v j u hi hj => ?_, fun y hy => ?_, hsz⟩
  · rcases Nat.eq_zero_or_pos ys.length with h0 | h0
    · rw [h0, Nat.zero_mul]
      cases a with
      | none => simp [Builtin.firstCells]
      | some a => simp [Builtin.firstCells, loadCells, loadCellsFrom]
    · rw [ha h0]
      simp only [Builtin.firstCells]
      refine run_loadCells W _ _ f (fun n hn => ?_)
      obtain ⟨i, v, j, u, rfl, hi, hj⟩ := hat n hn
      rw [add_none, cell?_heap hW]; exact (hc i v j u hi hj).1
  · have hlt : i * sz + j < ys.length * sz := by
      have h1 := (List.getElem?_eq_some_iff.1 hi).1
      have h2 := (List.getElem?_eq_some_iff.1 hj).1
      rw [hsz i v hi] at h2
      have : (i + 1) * sz ≤ ys.length * sz := Nat.mul_le_mul_right _ h1
      rw [Nat.succ_mul] at this; omega
    exact ⟨_, by simp [hlt], (hc i v j u hi hj).2⟩
  · obtain ⟨n, hn, rfl⟩ := List.mem_map.1 hy
    obtain ⟨i, v, j, u, rfl, hi, hj⟩ := hat n (List.mem_range.1 hn)
    exact (hc i v j u hi hj).2.2
theorem row_at {i : Nat} {xs : List V} {sz : Nat} {fz : Bool} (hk : OK k) (hi : k.h.get i = some (.row xs sz fz)) {e : Nat} {x : Value} (hx : VR k (.row i e) x) (he : e = xs.length) :
    ∃ arr ty fr cap, k.w.heap[k.pl (.o i)]? = some (.cells arr ty fr) ∧ (fz = false → fr = (0, 0)) ∧ x = .slice (some ⟨k.pl (.o i), 0, none⟩) xs.length cap ∧ xs.length ≤ cap ∧ cap * sz ≤ arr.size ∧ ElemsAt k xs sz arr ∧
      (∀ (i : Nat) (v : V), xs[i]? = some v → v.cells.length = sz) ∧ (fz = false → ∀ o, ¬ k.S (k.pl (.o i)) o) := by
  have hx' : k.I (.row i e) x := by
    cases hx with
    | pure h => cases h
    | atom h => exact h
  obtain ⟨⟨arr, ty, fr, cap, c1, c0, c2, c3, c4, c5⟩, c6, c7⟩ := hk.at_ (.o i) _ hi
  refine ⟨arr, ty, fr, cap, c1, c0, ?_, c3, c4, fun i v j u hi hj => ?_, c6, c7⟩
  · rw [(hx'.2.2 xs sz fz hi).2 he, c2 i rfl]
  · obtain ⟨y, a1, a2, a3, _⟩ := c5 i v j u hi hj; exact ⟨y, a1, a2, a3⟩
theorem slice_inv {xs : List V} {full : Bool} {x : Value} (h : VR k (.slice xs full) x) : PR k.C (.slice xs full) x := pr_cell h rfl
theorem str_get {b : ByteArray} {l : List UInt8} (h : b.data.toList = l) : b.size = l.length := by rw [← h, Array.length_toList]; rfl
theorem src_of {vy : V} {y : Value} {ys : List V} {sz : Nat} (hk : OK k) (hr : rowOf k.h vy = some ys) (hy : VR k vy y) (hall : (ys.all fun y => Nat.beq y.cells.length sz && y.pure) = true) : ∃ news, Src P k y ys sz news := by
  have hall' : ∀ (i : Nat) (v : V), ys[i]? = some v → v.cells.length = sz ∧ v.pure = true := fun i v hi => by
    have := List.all_eq_true.1 hall v (List.mem_of_getElem? hi)
    simp only [Bool.and_eq_true] at this
    exact ⟨beq_nat this.1, this.2⟩
  cases vy <;> first
    | (simp only [rowOf] at hr; cases hr; done)
    | skip
  · rename_i s
    simp only [rowOf, Option.some.injEq] at hr; subst hr
    obtain ⟨b, rfl, hb⟩ := str_inv hy
    have hbs := str_get hb
    refine ⟨s.map fun c => .int .u8 c.toNat, fun W => by simp [Builtin.lenOf, hbs], ?_, fun W _ => ?_, fun i v j u hi hj => ?_, fun y hy => ?_, fun i v hi => (hall' i v hi).1⟩
    · cases s with
      | nil => simp
      | cons c s =>
        have := (hall' 0 (ofByte c) rfl).1
        simp only [ofByte, V.cells, List.length_cons, List.length_nil] at this
        subst this; simp
    · have e : (b.extract 0 (List.map ofByte s).length).data = b.data := by
        simp only [List.length_map]
        rw [← hbs, ByteArray.data_extract]
        show b.data.extract 0 b.data.size = b.data
        simp
      simp only [Builtin.firstCells, e, Sem.run_pure]
      congr 1
      apply Array.ext'
      simp [hb]
    · simp only [List.getElem?_map, Option.map_eq_some_iff] at hi
      obtain ⟨c, hc, rfl⟩ := hi
      have hsz := (hall' i (ofByte c) (by simp [hc])).1
      simp only [ofByte, V.cells, List.length_cons, List.length_nil] at hsz
      subst hsz
      cases j with
      | zero =>
        simp only [ofByte, V.cells, List.getElem?_cons_zero, Option.some.injEq] at hj; subst hj
        exact ⟨.int .u8 c.toNat, by simp [hc], .int _ _, rfl⟩
      | succ j => simp [ofByte, V.cells] at hj
    · obtain ⟨c, _, rfl⟩ := List.mem_map.1 hy; rfl
  · rename_i i e
    simp only [rowOf] at hr
    split at hr
    · rename_i xs sz' fz hi
      obtain ⟨he, hr⟩ := bif_yes hr
      simp only [Option.some.injEq] at hr; subst hr
      obtain ⟨arr, ty, fr, cap, c1, _, rfl, c3, c4, c5, c6, _⟩ := row_at hk hi hy (beq_nat he).symm
      rcases Nat.eq_zero_or_pos xs.length with h0 | h0
      · have hnil : xs = [] := List.eq_nil_of_length_eq_zero h0
        subst hnil
        exact ⟨_, src_slice (b := 0) (o := 0) (fun h => absurd h (by simp)) (fun i v hi => by simp at hi) (fun _ => .nilIface) (fun i v j u hi => by simp at hi)⟩
      · have hss : sz' = sz := by
          obtain ⟨a, b⟩ := hall' 0 xs[0] (List.getElem?_eq_getElem h0)
          rw [← c6 0 xs[0] (List.getElem?_eq_getElem h0), a]
        subst hss
        refine ⟨_, src_slice (b := k.pl (.o i)) (o := 0) (fun _ => rfl) c6 (fun n => arr.getD n .nilIface) (fun i v j u hi hj => ?_)⟩
        obtain ⟨y, a1, a2, a3⟩ := c5 i v j u hi hj
        rw [cell_of_row _ _ _ _ _ _ c1, Nat.zero_add, a1, arr_getD a1]
        exact ⟨rfl, a2, a3⟩
    · cases hr
  · rename_i xs full
    simp only [rowOf, Option.some.injEq] at hr; subst hr
    have hp := slice_inv hy
    cases hp with
    | slice hcap hf ha hsz hc hp =>
      rename_i a cap sz' b o vals
      rcases Nat.eq_zero_or_pos xs.length with h0 | h0
      · have hnil : xs = [] := List.eq_nil_of_length_eq_zero h0
        subst hnil
        exact ⟨_, src_slice (b := 0) (o := 0) (fun h => absurd h (by simp)) (fun i v hi => by simp at hi) (fun _ => .nilIface) (fun i v j u hi => by simp at hi)⟩
      · have hss : sz' = sz := by
          obtain ⟨a, b⟩ := hall' 0 xs[0] (List.getElem?_eq_getElem h0)
          rw [← hsz 0 xs[0] (List.getElem?_eq_getElem h0), a]
        subst hss
        refine ⟨_, src_slice (b := b) (o := o) ha hsz vals (fun i v j u hi hj => ⟨(hc i v j u hi hj).2, hp i v j u hi hj, ?_⟩)⟩
        exact pr_one (hp i v j u hi hj) (pureIf_one (pure_cells_if (hall' i v hi).2 u (List.mem_of_getElem? hj)))
end
end Go.Proofs.YthpggdlhoegndaaDoor.LM
