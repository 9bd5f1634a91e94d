/-
  WHAT EACH OPERATION OF THE MODEL DOES, held against the logical one's: those that leave memory as it is, and local variables.
-/
import Derived.Test.YthpggdlhoegndaaDoorLm6
import Derived.Laws.Entries
import Derived.Laws.Strings
set_option linter.all false
namespace Go.Proofs.YthpggdlhoegndaaDoor.LM
open Go

def FR (k : Ctx) (fr : Fr) (tmps : Array Value) : Prop := (tmps.size = fr.n ∧ fr.n ≤ 4095) ∧ ∀ (t : Nat) (x : Value), tmps[t]? = some x → VR k (fr.get t) x
def GR (G : Nat → Option (List V)) (k : Ctx) : Prop := ∀ g cs, G g = some cs → PR k.C (.cptr cs 0) (.pointer (some ⟨g, 0, none⟩))
theorem FR.ext {k k' : Ctx} (e : Ext k k') {fr : Fr} {tmps : Array Value} (h : FR k fr tmps) : FR k' fr tmps := ⟨h.1, fun t x a => (h.2 t x a).ext e⟩
theorem GR.ext {G : Nat → Option (List V)} {k k' : Ctx} (e : Ext k k') (h : GR G k) : GR G k' := fun g cs hg => (h g cs hg).mono e.C

theorem ofCell_pr {C : Cell} {v : Value} {u : V} (h : ofCell v = some u) : PR C u v ∧ u.one = true := by
  unfold ofCell at h
  split at h <;> cases h <;> exact ⟨by first
    | exact .bool _ | exact .int _ _ | exact .float _ _ | exact .str rfl | exact .nilp | exact .nilmap | exact .nilfunc | exact .nilif
    | exact .slice (xs := []) (sz := 0) (b := 0) (o := 0) (vals := fun _ => .nilIface) (Nat.le_refl _) (fun _ => rfl) (fun h => absurd h (by simp)) (fun i v h => by simp at h) (fun i v j u h => by simp at h) (fun i v j u h => by simp at h), rfl⟩
theorem ofVal_pr {C : Cell} {v : Value} {u : V} (h : ofVal v = some u) : PR C u v ∧ u.cells.all V.one = true := by
  unfold ofVal at h
  split at h
  · rename_i cs
    split at h
    · rename_i l hl
      simp only [Option.some.injEq] at h; subst h
      obtain ⟨h1, h2⟩ := mapO_some hl
      refine ⟨.agg (by simp [h1]) (fun i v x hi hx => ?_), List.all_eq_true.2 fun u hu => ?_⟩
      · obtain ⟨b, hb, hl2⟩ := h2 i x (by simpa using hx)
        rw [hi] at hl2; simp only [Option.some.injEq] at hl2; subst hl2
        exact (ofCell_pr hb).1
      · obtain ⟨i, hi⟩ := List.mem_iff_getElem?.1 (show u ∈ l from hu)
        have hi2 : ∃ x, cs.toList[i]? = some x := by
          have : i < l.length := (List.getElem?_eq_some_iff.1 hi).1
          exact ⟨_, List.getElem?_eq_getElem (by omega)⟩
        obtain ⟨x, hx⟩ := hi2
        obtain ⟨b, hb, hl2⟩ := h2 i x hx
        rw [hi] at hl2; simp only [Option.some.injEq] at hl2; subst hl2
        exact (ofCell_pr (C := C) hb).2
    · cases h
  · obtain ⟨h1, h2⟩ := ofCell_pr (C := C) h
    refine ⟨h1, ?_⟩
    rw [cells_single h2]; simp [h2]

section
variable {P : Program} {G : Nat → Option (List V)} {k : Ctx}

theorem eval_rel (hG : GR G k) {fr : Fr} {a : Act} (hf : FR k fr a.tmps) {x : Operand} {y : X} (h : ofX G x = some y) : VR k (y.eval fr) (a.eval x) := by
  cases x with
  | tmp t =>
    simp only [ofX, Option.some.injEq] at h; subst h
    simp only [X.eval, Act.eval, Array.getD]
    by_cases ht : t < a.tmps.size
    · rw [dif_pos ht]
      exact hf.2 t _ (by simp [ht])
    · rw [dif_neg ht]
      have : Nat.blt t fr.n = false := by
        rw [Bool.eq_false_iff]; intro hb
        rw [Nat.blt_eq] at hb
        exact ht (by rw [hf.1.1]; exact hb)
      simp only [Fr.get, this, cond_false]
      exact .atom rfl
  | const v =>
    simp only [ofX] at h
    split at h
    · rename_i u hu
      simp only [Option.some.injEq] at h; subst h
      exact .pure (ofVal_pr hu).1
    · cases h
  | global g =>
    simp only [ofX] at h
    split at h
    · rename_i cs hg
      simp only [Option.some.injEq] at h; subst h
      exact .pure (hG g cs hg)
    · cases h
  | func f =>
    simp only [ofX, Option.some.injEq] at h; subst h
    exact .pure (.func rfl (fun i v x h => by simp at h))

/-! ### what an operation has done -/
structure Post (s' : St) (k k' : Ctx) : Prop where
  ext : Ext k k'
  ok : OK k'
  lo : k'.lo = s'.lo
  h : k'.h = s'.hs

def Came (k : Ctx) (s' : St) (out : Out) (e : Ending) (w' : World) : Prop :=
  ∃ k', Post s' k k' ∧ k'.w = w' ∧ match out with
    | .val v => ∃ x, e = .returned x ∧ VR k' v x
    | .panic v => ∃ x, e = .panicked [{ v := x, recovered := false }] ∧ VR k' v x
    | .skip => False

inductive Did (P : Program) (k : Ctx) (s' : St) : Out → Result Next → Prop
  | val {v : V} {x : Value} {k' : Ctx} (hp : Post s' k k') (hv : VR k' v x) : Did P k s' (.val v) (.ok (.value x) k'.w)
  | skip {k' : Ctx} (hp : Post s' k k') : Did P k s' .skip (.ok .skip k'.w)
  | panic {v : V} {x : Value} {k' : Ctx} (hp : Post s' k k') (hv : VR k' v x) : Did P k s' (.panic v) (.halt (.panic x) k'.w)
  | enter {out : Out} {f : FuncId} {args : Array Value} (h : Calls P f args k.w (Came k s' out)) : Did P k s' out (.ok (.enter f args) k.w)

theorem Post.refl {s : St} (hk : OK k) (h1 : k.lo = s.lo) (h2 : k.h = s.hs) : Post s k k := ⟨.refl k, hk, h1, h2⟩
/-- the plain case: a value, and memory as it was -/
theorem did_val {s : St} (hk : OK k) (h1 : k.lo = s.lo) (h2 : k.h = s.hs) {v : V} {x : Value} (hv : VR k v x) : Did P k s (.val v) (.ok (.value x) k.w) := .val (.refl hk h1 h2) hv

/-! ### reading -/
theorem add_none (b n j : Nat) : (⟨b, n, none⟩ : Addr).add j = ⟨b, n + j, none⟩ := by unfold Addr.add; split <;> simp_all
theorem aggT_some {t : TypeId} {ag : Bool} (h : aggT P t = some ag) (w : World) : (isAgg t).run P w = .ok ag w := by
  unfold aggT at h
  cases hu : P.underlying t with
  | none => rw [hu] at h; cases h
  | some d =>
    rw [hu] at h
    cases d <;> (simp only [Option.some.injEq] at h; subst h; simp [isAgg, run_underlying hu])
theorem sizeT_some {t : TypeId} {sz : Nat} (h : sizeT P t = some sz) (w : World) : (sizeOf t).run P w = .ok sz w := by
  unfold sizeT at h
  split at h
  · rename_i i hi; simp only [Option.some.injEq] at h; subst h; simp [sizeOf, typeInfo, hi]
  · cases h
theorem info_of_sizeT {t : TypeId} {sz : Nat} (h : sizeT P t = some sz) : ∃ i, P.info? t = some i ∧ i.size = sz := by
  unfold sizeT at h
  split at h
  · rename_i i hi; simp only [Option.some.injEq] at h; exact ⟨i, hi, h⟩
  · cases h

def Reads (k : Ctx) (b o : Nat) (cs : List V) : Prop := ∀ (j : Nat) (u : V), cs[j]? = some u → ∃ x, k.w.cell? ⟨b, o + j, none⟩ = some x ∧ VR k u x
theorem reads_load {t : TypeId} {ag : Bool} {sz off b o : Nat} {cs : List V} {v : V} (hag : aggT P t = some ag) (hsz : sizeT P t = some sz)
    (hr : Reads k b o cs) (hp : part ag off sz cs = some v) : ∃ x, (Instr.loadAt t (.pointer (some ⟨b, o + off, none⟩))).run P k.w = .ok x k.w ∧ VR k v x := by
  cases ag with
  | true =>
    simp only [part, cond_true] at hp
    by_cases hb : Nat.ble (off + sz) cs.length = true
    · rw [hb] at hp; simp only [cond_true, Option.some.injEq] at hp; subst hp
      have hle := Nat.le_of_ble_eq_true hb
      let f : Nat → Value := fun j => (k.w.cell? ⟨b, o + off + j, none⟩).getD undef
      have hf : ∀ j, j < sz → k.w.cell? ((⟨b, o + off, none⟩ : Addr).add j) = some (f j) := fun j hj => by
        obtain ⟨x, hx, _⟩ := hr (off + j) _ (List.getElem?_eq_getElem (by omega))
        rw [add_none]
        have : o + off + j = o + (off + j) := by omega
        simp only [f, this, hx, Option.getD_some]
      refine ⟨.agg ((List.range sz).map f).toArray, ?_, .agg (by simp; omega) fun i v x hi hx => ?_⟩
      · simp [Instr.loadAt, Instr.sureAddr, loadVar, aggT_some hag, sizeT_some hsz, run_loadCells _ _ _ f hf]
      · have hi' : i < sz := by
          have := (List.getElem?_eq_some_iff.1 hi).1
          rw [List.length_take] at this; omega
        rw [List.getElem?_take, if_pos hi', List.getElem?_drop] at hi
        obtain ⟨y, hy, hv⟩ := hr (off + i) v hi
        simp only [List.getElem?_toArray, List.getElem?_map, List.getElem?_range hi', Option.map_some, Option.some.injEq] at hx
        subst hx
        have : o + off + i = o + (off + i) := by omega
        simp only [f, this, hy, Option.getD_some]; exact hv
    · simp only [Bool.not_eq_true] at hb; rw [hb] at hp; cases hp
  | false =>
    simp only [part, cond_false] at hp
    obtain ⟨x, hx, hv⟩ := hr off v hp
    refine ⟨x, ?_, hv⟩
    simp [Instr.loadAt, Instr.sureAddr, loadVar, aggT_some hag, hx]
theorem reads_cptr {cs : List V} {off : Nat} {x : Value} (h : VR k (.cptr cs off) x) : ∃ b o, x = .pointer (some ⟨b, o + off, none⟩) ∧
    ∀ (j : Nat) (u : V), cs[j]? = some u → ∃ y, k.C b (o + j) y ∧ PR k.C u y := by
  cases h with
  | pure h => cases h with
    | cptr hc hp => exact ⟨_, _, rfl, fun j u hj => ⟨_, hc j u hj, hp j u hj⟩⟩
  | atom h => exact h.elim
theorem reads_cells {b : Nat} {cs : List V} (h : cellsAt k b cs) : Reads k b 0 cs := by
  obtain ⟨arr, ty, h1, h2, h3⟩ := h
  intro j u hj
  have hlt : j < arr.size := by rw [h2]; exact (List.getElem?_eq_some_iff.1 hj).1
  obtain ⟨a1, a2⟩ := h3 j u arr[j] hj (by simp)
  exact ⟨arr[j], by rw [cell_of_row _ _ _ _ _ _ h1, Nat.zero_add]; simp, a1⟩

/-! ### parts of values -/
theorem agg_inv {cs : List V} {x : Value} (h : VR k (.agg cs) x) : ∃ arr, x = .agg arr ∧ arr.size = cs.length ∧ ∀ (i : Nat) (v : V) (y : Value), cs[i]? = some v → arr[i]? = some y → VR k v y := by
  cases h with
  | pure h => cases h with
    | agg hl hc => exact ⟨_, rfl, hl, fun i v y hi hy => .pure (hc i v y hi hy)⟩
  | atom h => exact h.elim
  | agg hl hc => exact ⟨_, rfl, hl, hc⟩
theorem tuple_inv {cs : List V} {x : Value} (h : VR k (.tuple cs) x) : ∃ arr, x = .tuple arr ∧ arr.size = cs.length ∧ ∀ (i : Nat) (v : V) (y : Value), cs[i]? = some v → arr[i]? = some y → VR k v y := by
  cases h with
  | pure h => cases h with
    | tuple hl hc => exact ⟨_, rfl, hl, fun i v y hi hy => .pure (hc i v y hi hy)⟩
  | atom h => exact h.elim
  | tuple hl hc => exact ⟨_, rfl, hl, hc⟩
theorem part_run {t : TypeId} {ag : Bool} {sz off : Nat} {cs : List V} {arr : Array Value} {v : V} (hag : aggT P t = some ag) (hsz : sizeT P t = some sz) (hl : arr.size = cs.length)
    (hr : ∀ (i : Nat) (v : V) (y : Value), cs[i]? = some v → arr[i]? = some y → VR k v y) (hp : part ag off sz cs = some v) (w : World) : ∃ y, (Go.part t arr off).run P w = .ok y w ∧ VR k v y := by
  cases ag with
  | true =>
    simp only [part, cond_true] at hp
    by_cases hb : Nat.ble (off + sz) cs.length = true
    · rw [hb] at hp; simp only [cond_true, Option.some.injEq] at hp; subst hp
      have hle := Nat.le_of_ble_eq_true hb
      refine ⟨.agg (arr.extract off (off + sz)), by simp [Go.part, aggT_some hag, sizeT_some hsz], .agg ?_ fun i v y hi hy => ?_⟩
      · simp; omega
      · have hi' : i < sz := by
          have := (List.getElem?_eq_some_iff.1 hi).1
          rw [List.length_take] at this; omega
        rw [List.getElem?_take, if_pos hi', List.getElem?_drop] at hi
        rw [Array.getElem?_extract] at hy
        split at hy
        · exact hr _ _ _ hi hy
        · cases hy
    · simp only [Bool.not_eq_true] at hb; rw [hb] at hp; cases hp
  | false =>
    simp only [part, cond_false] at hp
    have hlt : off < arr.size := by rw [hl]; exact (List.getElem?_eq_some_iff.1 hp).1
    refine ⟨arr[off], by simp [Go.part, aggT_some hag, hlt], hr off v _ hp (by simp [hlt])⟩
theorem fieldT_some {s : TypeId} {f : Nat} {fd : Field} (h : fieldT P s f = some fd) : ∃ fs, P.underlying s = some (.struct fs) ∧ fs[f]? = some fd := by
  unfold fieldT at h
  split at h
  · rename_i fs hu; exact ⟨fs, hu, h⟩
  · cases h
theorem field_run {t : TypeId} {f : Nat} {fd : Field} {ag : Bool} {sz : Nat} {cs : List V} {x : Value} {v : V} (hf : fieldT P t f = some fd) (hag : aggT P fd.type = some ag) (hsz : sizeT P fd.type = some sz)
    (hx : VR k (.agg cs) x) (hp : part ag fd.offset sz cs = some v) (w : World) : ∃ y, (Instr.field t x f).run P w = .ok y w ∧ VR k v y := by
  obtain ⟨fs, hu, hfs⟩ := fieldT_some hf
  obtain ⟨arr, rfl, hl, hr⟩ := agg_inv hx
  obtain ⟨y, hy, hv⟩ := part_run hag hsz hl hr hp w
  refine ⟨y, ?_, hv⟩
  simp [Instr.field, run_underlying hu, hfs, asAgg, hy]
theorem idxA_run {t e : TypeId} {n sz : Nat} {ag : Bool} {cs : List V} {x : Value} {v : V} {kd : IntKind} {i : Int} (hu : P.underlying t = some (.array n e)) (hag : aggT P e = some ag) (hsz : sizeT P e = some sz)
    (hx : VR k (.agg cs) x) (h0 : 0 ≤ i) (h1 : i < n) (hp : part ag (i.toNat * sz) sz cs = some v) (w : World) : ∃ y, (Instr.index t x (.int kd i)).run P w = .ok y w ∧ VR k v y := by
  obtain ⟨arr, rfl, hl, hr⟩ := agg_inv hx
  obtain ⟨y, hy, hv⟩ := part_run hag hsz hl hr hp w
  refine ⟨y, ?_, hv⟩
  simp [Instr.index, asIntOf, run_underlying hu, h0, h1, sizeT_some hsz, hy]
theorem str_inv {l : List UInt8} {x : Value} (h : VR k (.str l) x) : ∃ b : ByteArray, x = .string b ∧ b.data.toList = l := by
  cases h with
  | pure h => cases h with
    | str h => exact ⟨_, rfl, h⟩
  | atom h => exact h.elim
theorem int_inv {kd : IntKind} {n : Int} {x : Value} (h : VR k (.int kd n) x) : x = .int kd n := by
  cases h with
  | pure h => cases h; rfl
  | atom h => exact h.elim
theorem bool_inv {b : Bool} {x : Value} (h : VR k (.bool b) x) : x = .bool b := by
  cases h with
  | pure h => cases h; rfl
  | atom h => exact h.elim
theorem idxS_run {t : TypeId} {l : List UInt8} {x : Value} {b : UInt8} {kd : IntKind} {i : Int} (hu : P.underlying t = some .string) (hx : VR k (.str l) x) (h0 : 0 ≤ i) (hb : l[i.toNat]? = some b) (w : World) :
    (Instr.index t x (.int kd i)).run P w = .ok (.int .u8 b.toNat) w := by
  obtain ⟨s, rfl, hs⟩ := str_inv hx
  have hlt : i.toNat < s.size := by
    have := (List.getElem?_eq_some_iff.1 hb).1
    rw [← hs, Array.length_toList] at this; exact this
  have hg : s[i.toNat]? = some b := by
    have : s.data.toList[i.toNat]? = some b := by rw [hs]; exact hb
    have h2 : s.data[i.toNat]? = some b := by simpa using this
    have h3 := (Array.getElem?_eq_some_iff.1 h2)
    obtain ⟨h4, h5⟩ := h3
    have : s[i.toNat]? = some s[i.toNat] := by exact getElem?_pos s i.toNat hlt
    rw [this]; exact congrArg some h5
  simp [Instr.index, asIntOf, run_underlying hu, h0, hg]

/-! ### addresses -/
theorem fad_run {s : TypeId} {f : Nat} {fd : Field} {sz : Nat} (hf : fieldT P s f = some fd) (hsz : sizeT P fd.type = some sz) (h0 : sz ≠ 0) (b o : Nat) (w : World) :
    (Instr.fieldAt s (.pointer (some ⟨b, o, none⟩)) f).run P w = .ok (.pointer (some ⟨b, o + fd.offset, none⟩)) w := by
  obtain ⟨fs, hu, hfs⟩ := fieldT_some hf
  simp [Instr.fieldAt, run_underlying hu, hfs, Instr.sureAddr, fieldPlace, sizeT_some hsz, h0, add_none]
theorem iadA_run {t e : TypeId} {n sz : Nat} {kd : IntKind} {i : Int} (hu : P.underlying t = some (.array n e)) (hsz : sizeT P e = some sz) (h0 : 0 ≤ i) (h1 : i < n) (b o : Nat) (w : World) :
    (Instr.indexAt t (.pointer (some ⟨b, o, none⟩)) (.int kd i)).run P w = .ok (.pointer (some ⟨b, o + i.toNat * sz, none⟩)) w := by
  simp [Instr.indexAt, asIntOf, run_underlying hu, Instr.sureAddr, h0, h1, sizeT_some hsz, add_none]
theorem iadS_run {t e : TypeId} {sz len cap : Nat} {kd : IntKind} {i : Int} (hu : P.underlying t = some (.slice e)) (hsz : sizeT P e = some sz) (h0 : 0 ≤ i) (h1 : i < len) (b o : Nat) (w : World) :
    (Instr.indexAt t (.slice (some ⟨b, o, none⟩) len cap) (.int kd i)).run P w = .ok (.pointer (some ⟨b, o + i.toNat * sz, none⟩)) w := by
  have hc : (0 ≤ i ∧ i < (len : Int)) := ⟨h0, h1⟩
  simp only [Instr.indexAt, asIntOf, Sem.run_bind, Sem.run_pure, Result.andThen_ok, run_underlying hu, if_pos hc, sizeT_some hsz, add_none]
/-- an address moved on within what it leads to -/
def V.shift (n : Nat) : V → V
  | .cptr cs o => .cptr cs (o + n)
  | .loc t g o => .loc t g (o + n)
  | .ref i o => .ref i (o + n)
  | .rptr i e idx o => .rptr i e idx (o + n)
  | v => v
def V.isPtr : V → Bool
  | .cptr .. | .loc .. | .ref .. | .rptr .. => true
  | _ => false
theorem shift_rel {v : V} {x : Value} (h : VR k v x) (hp : v.isPtr = true) (n : Nat) : ∃ b o, x = .pointer (some ⟨b, o, none⟩) ∧ VR k (v.shift n) (.pointer (some ⟨b, o + n, none⟩)) := by
  cases v <;> try cases hp
  · rename_i t g off
    cases h with
    | pure h => cases h
    | atom h =>
      obtain ⟨⟨b, o, rfl⟩, g', cs, h1, h2, h3, h4⟩ := h
      refine ⟨b, o, rfl, .atom ⟨⟨_, _, rfl⟩, g', cs, h1, h2, h3, fun e => ?_⟩⟩
      have := h4 e
      simp only [Value.pointer.injEq, Option.some.injEq, Addr.mk.injEq, and_true] at this ⊢
      exact ⟨this.1, by omega⟩
  · rename_i i off
    cases h with
    | pure h => cases h
    | atom h =>
      obtain ⟨⟨b, o, rfl⟩, h1, h2⟩ := h
      refine ⟨b, o, rfl, .atom ⟨⟨_, _, rfl⟩, h1, fun cs fz e => ?_⟩⟩
      have := h2 cs fz e
      simp only [Value.pointer.injEq, Option.some.injEq, Addr.mk.injEq, and_true] at this ⊢
      exact ⟨this.1, by omega⟩
  · rename_i i e idx off
    cases h with
    | pure h => cases h
    | atom h =>
      obtain ⟨⟨b, o, rfl⟩, h1, h2⟩ := h
      refine ⟨b, o, rfl, .atom ⟨⟨_, _, rfl⟩, h1, fun xs sz fz hg => ⟨(h2 xs sz fz hg).1, fun he => ?_⟩⟩⟩
      have := (h2 xs sz fz hg).2 he
      simp only [Value.pointer.injEq, Option.some.injEq, Addr.mk.injEq, and_true] at this ⊢
      exact ⟨this.1, by omega⟩
  · rename_i cs off
    cases h with
    | pure h => cases h with
      | cptr hc hp => exact ⟨_, _, rfl, .pure (by simp only [V.shift]; rw [Nat.add_assoc]; exact .cptr hc hp)⟩
    | atom h => exact h.elim
end
end Go.Proofs.YthpggdlhoegndaaDoor.LM
