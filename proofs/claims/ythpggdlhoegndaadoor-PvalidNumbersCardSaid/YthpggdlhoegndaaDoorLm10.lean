/-
  STORES, and what is stilled: the machine's step and the logical one's.
-/
import Derived.Test.YthpggdlhoegndaaDoorLm9
set_option linter.all false
namespace Go.Proofs.YthpggdlhoegndaaDoor.LM
open Go

section
variable {P : Program} {k : Ctx}

theorem arr_getD {arr : Array Value} {i : Nat} {y d : Value} (h : arr[i]? = some y) : arr.getD i d = y := by
  rw [Array.getD_eq_getD_getElem?, h]; rfl

/-- a step of the state: more is known, nothing is lost -/
structure Step (k k' : Ctx) : Prop where
  ext : Ext k k'
  ok : OK k'
theorem Step.refl (hk : OK k) : Step k k := ⟨.refl k, hk⟩
theorem Step.trans {a b c : Ctx} (h : Step a b) (g : Step b c) : Step a c := ⟨h.ext.trans g.ext, g.ok⟩

theorem store_run {t : TypeId} {sz b o : Nat} {ty : TypeId} {arr : Array Value} {x : Value} {w : World} (hsz : sizeT P t = some sz) (hx : x.cells.size = sz) (hone : ∀ v ∈ x.cells.toList, v.oneCell' = true)
    (hg : w.heap[b]? = some (.cells arr ty (0, 0))) (hle : o + sz ≤ arr.size) :
    (Instr.storeAt t (.pointer (some ⟨b, o, none⟩)) x).run P w = .ok () (w.setRow b (putArr o x.cells.toList arr)) := by
  have hl : x.cells.toList.length = sz := by rw [Array.length_toList, hx]
  have hst := run_storeCells_at P b o ty x.cells.toList 0 arr w hg (by rw [hl]; omega) hone
  simp only [Nat.add_zero] at hst
  simp [Instr.storeAt, Instr.sureAddr, storeVar, sizeT_some hsz, hx, hst, putArr]

theorem cellsAt_put {k k' : Ctx} (hC : ∀ b o x, k.C b o x → k'.C b o x) (hI : ∀ v x, k.I v x → k'.I v x) {b' : Nat} {cs : List V} {arr : Array Value} {ty : TypeId} {off : Nat} {vs : List V} {xs : List Value}
    (h2 : arr.size = cs.length) (h3 : ∀ (j : Nat) (v : V) (x : Value), cs[j]? = some v → arr[j]? = some x → VR k v x ∧ x.oneCell' = true)
    (hl : xs.length = vs.length) (hle : off + vs.length ≤ cs.length) (hv : ∀ (j : Nat) (u : V) (y : Value), vs[j]? = some u → xs[j]? = some y → VR k u y ∧ y.oneCell' = true)
    (hh : k'.w.heap[b']? = some (.cells (putArr off xs arr) ty (0, 0))) : cellsAt k' b' (putCells off vs cs) := by
  refine ⟨_, ty, hh, by rw [putArr_size (by omega), putCells_length hle]; exact h2, fun j v x hj hx => ?_⟩
  rw [putCells_get hle] at hj
  rw [putArr_get (by omega)] at hx
  rw [hl] at hx
  by_cases c1 : j < off
  · rw [if_pos c1] at hj hx; exact ⟨(h3 _ _ _ hj hx).1.mono hC hI, (h3 _ _ _ hj hx).2⟩
  · rw [if_neg c1] at hj hx
    by_cases c2 : j < off + vs.length
    · rw [if_pos c2] at hj hx; exact ⟨(hv _ _ _ hj hx).1.mono hC hI, (hv _ _ _ hj hx).2⟩
    · rw [if_neg c2] at hj hx; exact ⟨(h3 _ _ _ hj hx).1.mono hC hI, (h3 _ _ _ hj hx).2⟩

theorem store_loc {t : TypeId} {sz d g off : Nat} {cs : List V} {v : V} {x a : Value} (hk : OK k) (hd : k.lo[d]? = some (g, cs)) (ha : VR k (.loc d g off) a) (hx : VR k v x) (hu : v ≠ .undef)
    (hsz : sizeT P t = some sz) (hl : v.cells.length = sz) (hle : off + sz ≤ cs.length) (ho : v.cells.all V.one = true) :
    ∃ k', Step k k' ∧ k'.lo = k.lo.set d (g, putCells off v.cells cs) ∧ k'.h = k.h ∧ (Instr.storeAt t a x).run P k.w = .ok () k'.w := by
  have ha' : k.I (.loc d g off) a := by
    cases ha with
    | pure h => cases h
    | atom h => exact h
  obtain ⟨_, g', cs', h1, h2, h3, h4⟩ := ha'
  rw [hd] at h1; simp only [Option.some.injEq, Prod.mk.injEq] at h1; obtain ⟨rfl, rfl⟩ := h1
  have haddr := h4 rfl
  subst haddr
  have was : k.ob (.l d) = some (.cells cs false) := by simp [Ctx.ob, hd]; omega
  obtain ⟨⟨arr, ty, c1, c2, c3⟩, hn⟩ := hk.at_ _ _ was
  obtain ⟨x1, x2⟩ := cells_put hx ho hu
  have hput := put_loc (cs' := putCells off v.cells cs) hk hd h2 (putArr off x.cells.toList arr)
  refine ⟨_, ⟨hput.ext rfl rfl rfl, hput.keep ?_⟩, rfl, rfl, ?_⟩
  · refine ⟨cellsAt_put (k := k) hput.C hput.I c2 c3 (by rw [Array.length_toList, x1]) (by omega) (fun j u y hj hy => x2 j u y hj (by simpa using hy)) (setRow_heap _ _ _ _ _ _ c1), fun _ => hn rfl⟩
  · refine store_run hsz (by rw [x1, hl]) (fun y hy => ?_) c1 (by omega)
    obtain ⟨j, hj⟩ := List.mem_iff_getElem?.1 hy
    have hj2 : j < v.cells.length := by
      have := (List.getElem?_eq_some_iff.1 hj).1
      rw [Array.length_toList, x1] at this; exact this
    exact (x2 j _ y (List.getElem?_eq_getElem hj2) (by simpa using hj)).2
theorem put_ref {i : Nat} {cs cs' : List V} (hk : OK k) (hi : k.h.get i = some (.cells cs false)) (arr : Array Value) :
    Put k { k with h := k.h.set i (.cells cs' false), w := k.w.setRow (k.pl (.o i)) arr } (.o i) (.cells cs false) (.cells cs' false) := by
  have hn := (hk.at_ (.o i) _ hi).2 rfl
  exact ⟨hk, hi, ob_set hi _ _ _, rfl, rfl, fun _ _ => rfl, fun b hb => setRow_other _ _ _ _ hb, setRow_size _ _ _, fun _ _ _ => Iff.rfl, setRow_C arr hn,
    I_set hi _ _ _ (fun cs1 fz e => ⟨_, _, rfl⟩) (fun xs sz fz e => by cases e) (fun es e => by cases e) (fun _ _ => rfl)⟩
theorem store_ref {t : TypeId} {sz i off : Nat} {cs : List V} {v : V} {x a : Value} (hk : OK k) (hi : k.h.get i = some (.cells cs false)) (ha : VR k (.ref i off) a) (hx : VR k v x) (hu : v ≠ .undef)
    (hsz : sizeT P t = some sz) (hl : v.cells.length = sz) (hle : off + sz ≤ cs.length) (ho : v.cells.all V.one = true) :
    ∃ k', Step k k' ∧ k'.lo = k.lo ∧ k'.h = k.h.set i (.cells (putCells off v.cells cs) false) ∧ (Instr.storeAt t a x).run P k.w = .ok () k'.w := by
  have ha' : k.I (.ref i off) a := by
    cases ha with
    | pure h => cases h
    | atom h => exact h
  have haddr := ha'.2.2 cs false hi
  subst haddr
  obtain ⟨⟨arr, ty, c1, c2, c3⟩, hn⟩ := hk.at_ (.o i) _ hi
  obtain ⟨x1, x2⟩ := cells_put hx ho hu
  have hput := put_ref (cs' := putCells off v.cells cs) hk hi (putArr off x.cells.toList arr)
  refine ⟨_, ⟨hput.ext rfl rfl rfl, hput.keep ?_⟩, rfl, rfl, ?_⟩
  · refine ⟨cellsAt_put (k := k) hput.C hput.I c2 c3 (by rw [Array.length_toList, x1]) (by omega) (fun j u y hj hy => x2 j u y hj (by simpa using hy)) (setRow_heap _ _ _ _ _ _ c1), fun _ => hn rfl⟩
  · refine store_run hsz (by rw [x1, hl]) (fun y hy => ?_) c1 (by omega)
    obtain ⟨j, hj⟩ := List.mem_iff_getElem?.1 hy
    have hj2 : j < v.cells.length := by
      have := (List.getElem?_eq_some_iff.1 hj).1
      rw [Array.length_toList, x1] at this; exact this
    exact (x2 j _ y (List.getElem?_eq_getElem hj2) (by simpa using hj)).2

/-! ### what is stilled -/
def Ctx.freeze (k : Ctx) (i : Nat) (o : Ob) (n : Nat) : Ctx :=
  { k with h := k.h.set i o, S := fun b c => k.S b c ∨ (b = k.pl (.o i) ∧ c < n) }
theorem C_freeze {i : Nat} {o : Ob} {n : Nat} (b c : Nat) (x : Value) (h : k.C b c x) : (k.freeze i o n).C b c x := ⟨.inl h.1, h.2⟩
theorem put_freeze {i n : Nat} {o p : Ob} (hk : OK k) (hi : k.h.get i = some o)
    (hc : ∀ cs fz, p = .cells cs fz → ∃ cs' fz', o = .cells cs' fz') (hr : ∀ xs sz fz, p = .row xs sz fz → ∃ xs' fz', o = .row xs' sz fz' ∧ xs'.length = xs.length)
    (hm : ∀ es, p = .map es → ∃ es', o = .map es') : Put k (k.freeze i p n) (.o i) o p :=
  ⟨hk, hi, ob_set hi _ _ _, rfl, rfl, fun _ _ => rfl, fun b _ => rfl, rfl,
    fun b c hb => ⟨fun h => h.elim id (fun h => absurd h.1 hb), fun h => .inl h⟩, C_freeze,
    I_set hi _ _ _ hc (fun xs sz fz e => by obtain ⟨xs', fz', h1, h2⟩ := hr xs sz fz e; exact ⟨xs', fz', h1, Nat.le_of_eq h2, fun _ => rfl⟩) hm (fun _ _ => rfl)⟩
/-- A row becomes a slice that stays. -/
theorem still_row {i e : Nat} {xs : List V} {sz : Nat} {fz : Bool} {x : Value} (hk : OK k) (hi : k.h.get i = some (.row xs sz fz)) (he : xs.length = e) (hx : VR k (.row i e) x) :
    Step k (k.freeze i (.row xs sz true) (xs.length * sz)) ∧ PR (k.freeze i (.row xs sz true) (xs.length * sz)).C (.slice xs false) x := by
  have hx' : k.I (.row i e) x := by
    cases hx with
    | pure h => cases h
    | atom h => exact h
  have hrho := (hx'.2.2 xs sz fz hi).2 he.symm
  obtain ⟨⟨arr, ty, fr, cap, c1, c0, c2, c3, c4, c5⟩, c6, c7⟩ := hk.at_ (.o i) _ hi
  have hput := put_freeze (n := xs.length * sz) (p := .row xs sz true) hk hi (fun _ _ e => by cases e) (fun xs' sz' fz' e => by cases e; exact ⟨_, _, rfl, rfl⟩) (fun _ e => by cases e)
  have key : ∀ (j : Nat) (v : V) (m : Nat) (u : V), xs[j]? = some v → v.cells[m]? = some u → j * sz + m < xs.length * sz := by
    intro j v m u hj hm
    have h1 := (List.getElem?_eq_some_iff.1 hj).1
    have h2 := (List.getElem?_eq_some_iff.1 hm).1
    rw [c6 j v hj] at h2
    have : (j + 1) * sz ≤ xs.length * sz := Nat.mul_le_mul_right _ h1
    rw [Nat.succ_mul] at this
    omega
  refine ⟨⟨hput.ext rfl rfl rfl, hput.keep ?_⟩, ?_⟩
  · refine ⟨⟨arr, ty, fr, cap, c1, (fun h => by cases h), c2, c3, c4, fun j v m u hj hm => ?_⟩, c6, (fun h => by cases h)⟩
    obtain ⟨y, a1, a2, a3, _⟩ := c5 j v m u hj hm
    exact ⟨y, a1, a2.mono C_freeze, a3, fun _ => .inr ⟨rfl, key j v m u hj hm⟩⟩
  · rw [hrho, c2 i rfl]
    refine .slice (sz := sz) (b := k.pl (.o i)) (o := 0) (vals := fun n => arr.getD n .nilIface) c3 (fun h => by cases h) (fun _ => rfl) c6 (fun j v m u hj hm => ?_) (fun j v m u hj hm => ?_)
    · obtain ⟨y, a1, a2, a3, _⟩ := c5 j v m u hj hm
      refine ⟨.inr ⟨rfl, by rw [Nat.zero_add]; exact key j v m u hj hm⟩, ?_⟩
      show k.w.cell? _ = _
      rw [cell_of_row _ _ _ _ _ _ c1, Nat.zero_add, a1, arr_getD a1]
    · obtain ⟨y, a1, a2, a3, _⟩ := c5 j v m u hj hm
      simp only [arr_getD a1]
      exact a2.mono C_freeze
theorem slice_weak {C : Cell} {xs : List V} {full : Bool} {x : Value} (h : PR C (.slice xs full) x) : PR C (.slice xs false) x := by
  cases h with
  | slice hcap hf ha hsz hc hp => exact .slice hcap (fun h => by cases h) ha hsz hc hp
theorem still_cell {v v' : V} {h' : HS} {x : Value} (hk : OK k) (h : stillCell k.h v = some (v', h')) (hx : VR k v x) :
    ∃ k', Step k k' ∧ k'.lo = k.lo ∧ k'.h = h' ∧ k'.w = k.w ∧ PR k'.C v' x := by
  have base : ∀ {v v' : V} {h' : HS} {x : Value}, VR k v x → (bif v.pureIf then some (v, k.h) else none) = some (v', h') → ∃ k', Step k k' ∧ k'.lo = k.lo ∧ k'.h = h' ∧ k'.w = k.w ∧ PR k'.C v' x := by
    intro v v' h' x hx h
    obtain ⟨hp, h⟩ := bif_yes h
    simp only [Option.some.injEq, Prod.mk.injEq] at h
    obtain ⟨rfl, rfl⟩ := h
    exact ⟨k, .refl hk, rfl, rfl, rfl, pr_if hx hp⟩
  cases v <;> first
    | exact base hx h
    | skip
  · rename_i i e
    simp only [stillCell] at h
    split at h
    · rename_i xs sz fz hi
      obtain ⟨he, h⟩ := bif_yes h
      simp only [Option.some.injEq, Prod.mk.injEq] at h
      obtain ⟨rfl, rfl⟩ := h
      obtain ⟨s1, s2⟩ := still_row hk hi (beq_nat he) hx
      exact ⟨_, s1, rfl, rfl, rfl, s2⟩
    · cases h
  · simp only [stillCell, Option.some.injEq, Prod.mk.injEq] at h
    obtain ⟨rfl, rfl⟩ := h
    exact ⟨k, .refl hk, rfl, rfl, rfl, slice_weak (pr_cell hx rfl)⟩
theorem still_cells : ∀ {vs vs' : List V} {h' : HS} {k : Ctx} {xs : List Value}, OK k → stillCells k.h vs = some (vs', h') → xs.length = vs.length → (∀ (i : Nat) (v : V) (x : Value), vs[i]? = some v → xs[i]? = some x → VR k v x) →
    ∃ k', Step k k' ∧ k'.lo = k.lo ∧ k'.h = h' ∧ k'.w = k.w ∧ vs'.length = vs.length ∧ ∀ (i : Nat) (v : V) (x : Value), vs'[i]? = some v → xs[i]? = some x → PR k'.C v x
  | [], vs', h', k, xs, hk, h, hl, hv => by
    simp only [stillCells, Option.some.injEq, Prod.mk.injEq] at h
    obtain ⟨rfl, rfl⟩ := h
    exact ⟨k, .refl hk, rfl, rfl, rfl, rfl, fun i v x hi => by simp at hi⟩
  | v :: vs, vs', h', k, xs, hk, h, hl, hv => by
    cases xs with
    | nil => simp at hl
    | cons x xs =>
      simp only [stillCells] at h
      split at h
      · rename_i v1 h1 e1
        split at h
        · rename_i vs1 h2 e2
          simp only [Option.some.injEq, Prod.mk.injEq] at h
          obtain ⟨rfl, rfl⟩ := h
          obtain ⟨k1, s1, l1, rfl, w1, p1⟩ := still_cell hk e1 (hv 0 v x rfl rfl)
          obtain ⟨k2, s2, l2, g2, w2, n2, p2⟩ := still_cells s1.ok e2 (by simpa using hl) (fun i v x hi hx => (hv (i + 1) v x (by simpa using hi) (by simpa using hx)).ext s1.ext)
          refine ⟨k2, s1.trans s2, l2.trans l1, g2, w2.trans w1, by simp [n2], fun i u y hi hy => ?_⟩
          cases i with
          | zero => simp at hi hy; subst hi; subst hy; exact p1.mono s2.ext.C
          | succ i => exact p2 i u y (by simpa using hi) (by simpa using hy)
        · cases h
      · cases h
theorem still_val {v v' : V} {h' : HS} {x : Value} (hk : OK k) (h : still k.h v = some (v', h')) (hx : VR k v x) :
    ∃ k', Step k k' ∧ k'.lo = k.lo ∧ k'.h = h' ∧ k'.w = k.w ∧ PR k'.C v' x := by
  cases v <;> first
    | (refine still_cell hk ?_ hx; exact h)
    | skip
  rename_i cs
  simp only [still] at h
  split at h
  · rename_i cs' h1 e1
    simp only [Option.some.injEq, Prod.mk.injEq] at h
    obtain ⟨rfl, rfl⟩ := h
    obtain ⟨arr, rfl, hl, hc⟩ := agg_inv hx
    obtain ⟨k1, s1, l1, g1, w1, n1, p1⟩ := still_cells (xs := arr.toList) hk e1 (by rw [Array.length_toList]; exact hl) (fun i v x hi hx => hc i v x hi (by simpa using hx))
    exact ⟨k1, s1, l1, g1, w1, .agg (by rw [hl, n1]) fun i v x hi hx => p1 i v x hi (by simpa using hx)⟩
  · cases h
theorem still_vals : ∀ {vs vs' : List V} {h' : HS} {k : Ctx} {xs : List Value}, OK k → stills k.h vs = some (vs', h') → xs.length = vs.length → (∀ (i : Nat) (v : V) (x : Value), vs[i]? = some v → xs[i]? = some x → VR k v x) →
    ∃ k', Step k k' ∧ k'.lo = k.lo ∧ k'.h = h' ∧ k'.w = k.w ∧ vs'.length = vs.length ∧ ∀ (i : Nat) (v : V) (x : Value), vs'[i]? = some v → xs[i]? = some x → PR k'.C v x
  | [], vs', h', k, xs, hk, h, hl, hv => by
    simp only [stills, Option.some.injEq, Prod.mk.injEq] at h
    obtain ⟨rfl, rfl⟩ := h
    exact ⟨k, .refl hk, rfl, rfl, rfl, rfl, fun i v x hi => by simp at hi⟩
  | v :: vs, vs', h', k, xs, hk, h, hl, hv => by
    cases xs with
    | nil => simp at hl
    | cons x xs =>
      simp only [stills] at h
      split at h
      · rename_i v1 h1 e1
        split at h
        · rename_i vs1 h2 e2
          simp only [Option.some.injEq, Prod.mk.injEq] at h
          obtain ⟨rfl, rfl⟩ := h
          obtain ⟨k1, s1, l1, rfl, w1, p1⟩ := still_val hk e1 (hv 0 v x rfl rfl)
          obtain ⟨k2, s2, l2, g2, w2, n2, p2⟩ := still_vals s1.ok e2 (by simpa using hl) (fun i v x hi hx => (hv (i + 1) v x (by simpa using hi) (by simpa using hx)).ext s1.ext)
          refine ⟨k2, s1.trans s2, l2.trans l1, g2, w2.trans w1, by simp [n2], fun i u y hi hy => ?_⟩
          cases i with
          | zero => simp at hi hy; subst hi; subst hy; exact p1.mono s2.ext.C
          | succ i => exact p2 i u y (by simpa using hi) (by simpa using hy)
        · cases h
      · cases h
/-- where there is no row -/
theorem calm_cell {v v' : V} {x : Value} (h : calmCell v = some v') (hx : VR k v x) : PR k.C v' x := by
  have base : ∀ {v v' : V} {x : Value}, VR k v x → (bif v.pureIf then some v else none) = some v' → PR k.C v' x := by
    intro v v' x hx h
    obtain ⟨hp, h⟩ := bif_yes h
    simp only [Option.some.injEq] at h
    subst h
    exact pr_if hx hp
  cases v <;> first
    | exact base hx h
    | skip
  simp only [calmCell, Option.some.injEq] at h
  subst h
  exact slice_weak (pr_cell hx rfl)
theorem calm_val {v v' : V} {x : Value} (h : calm v = some v') (hx : VR k v x) : PR k.C v' x := by
  cases v <;> first
    | (refine calm_cell ?_ hx; exact h)
    | skip
  rename_i cs
  simp only [calm] at h
  split at h
  · rename_i cs' e1
    simp only [Option.some.injEq] at h
    subst h
    obtain ⟨arr, rfl, hl, hc⟩ := agg_inv hx
    obtain ⟨n1, p1⟩ := mapO_some e1
    refine .agg (by rw [hl, n1]) fun i v x hi hx => ?_
    have hlt : i < cs.length := by
      have := (List.getElem?_eq_some_iff.1 hi).1
      omega
    obtain ⟨b, hb, hi2⟩ := p1 i _ (List.getElem?_eq_getElem hlt)
    rw [hi] at hi2; simp only [Option.some.injEq] at hi2; subst hi2
    exact calm_cell hb (hc i _ _ (List.getElem?_eq_getElem hlt) hx)
  · cases h
theorem calm_vals {vs vs' : List V} {xs : List Value} (h : mapO calm vs = some vs') (hv : ∀ (i : Nat) (v : V) (x : Value), vs[i]? = some v → xs[i]? = some x → VR k v x) :
    vs'.length = vs.length ∧ ∀ (i : Nat) (v : V) (x : Value), vs'[i]? = some v → xs[i]? = some x → PR k.C v x := by
  obtain ⟨n1, p1⟩ := mapO_some h
  refine ⟨n1, fun i v x hi hx => ?_⟩
  have hlt : i < vs.length := by
    have := (List.getElem?_eq_some_iff.1 hi).1
    omega
  obtain ⟨b, hb, hi2⟩ := p1 i _ (List.getElem?_eq_getElem hlt)
  rw [hi] at hi2; simp only [Option.some.injEq] at hi2; subst hi2
  exact calm_val hb (hv i _ _ (List.getElem?_eq_getElem hlt) hx)
end
end Go.Proofs.YthpggdlhoegndaaDoor.LM
