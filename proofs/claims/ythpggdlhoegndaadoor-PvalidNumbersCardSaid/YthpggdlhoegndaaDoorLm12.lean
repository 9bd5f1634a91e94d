/-
  ROWS, on: the built-in append; an element written over.
-/
import Derived.Test.YthpggdlhoegndaaDoorLm11
import Derived.Laws.AppendOwn
set_option linter.all false
namespace Go.Proofs.YthpggdlhoegndaaDoor.LM
open Go

section
variable {P : Program} {k : Ctx}

theorem ElemsAt.mono {k k' : Ctx} (h : ∀ b o x, k.C b o x → k'.C b o x) {xs : List V} {sz : Nat} {arr : Array Value} (e : ElemsAt k xs sz arr) : ElemsAt k' xs sz arr := fun i v j u hi hj => by
  obtain ⟨y, a1, a2, a3⟩ := e i v j u hi hj; exact ⟨y, a1, a2.mono h, a3⟩
theorem elems_append {xs ys : List V} {sz : Nat} {A B Z : Array Value}
    (hA : A.size = xs.length * sz) (hB : B.size = ys.length * sz) (ea : ElemsAt k xs sz A) (eb : ElemsAt k ys sz B) : ElemsAt k (xs ++ ys) sz (A ++ B ++ Z) := by
  intro i v j u hi hj
  by_cases h1 : i < xs.length
  · rw [List.getElem?_append_left h1] at hi
    obtain ⟨y, a1, a2, a3⟩ := ea i v j u hi hj
    have hlt := (Array.getElem?_eq_some_iff.1 a1).1
    refine ⟨y, ?_, a2, a3⟩
    rw [Array.getElem?_append_left (by simp; omega), Array.getElem?_append_left hlt]; exact a1
  · rw [List.getElem?_append_right (by omega)] at hi
    obtain ⟨y, a1, a2, a3⟩ := eb _ v j u hi hj
    have hlt := (Array.getElem?_eq_some_iff.1 a1).1
    have e : i * sz + j = A.size + ((i - xs.length) * sz + j) := by
      rw [hA, Nat.sub_mul]
      have : xs.length * sz ≤ i * sz := Nat.mul_le_mul_right _ (by omega)
      omega
    refine ⟨y, ?_, a2, a3⟩
    rw [e, Array.getElem?_append_left (by simp; omega), Array.getElem?_append_right (by omega)]
    rw [show A.size + ((i - xs.length) * sz + j) - A.size = (i - xs.length) * sz + j from by omega]; exact a1
theorem sizes_append {xs ys : List V} {sz : Nat} (hx : ∀ (i : Nat) (v : V), xs[i]? = some v → v.cells.length = sz) (hy : ∀ (i : Nat) (v : V), ys[i]? = some v → v.cells.length = sz) :
    ∀ (i : Nat) (v : V), (xs ++ ys)[i]? = some v → v.cells.length = sz := by
  intro i v hi
  by_cases h1 : i < xs.length
  · rw [List.getElem?_append_left h1] at hi; exact hx i v hi
  · rw [List.getElem?_append_right (by omega)] at hi; exact hy _ v hi

/-- the types' facts that an append wants -/
structure AppT (P : Program) (t u e : TypeId) (sz bytes : Nat) : Prop where
  t : P.underlying t = some (.slice e)
  u : ∃ d, P.underlying u = some d ∧ (d = .string ∨ ∃ e', d = .slice e')
  info : ∃ i z, P.info? e = some i ∧ i.zero = some z ∧ i.size = sz ∧ i.bytes = bytes ∧ z.cells.size = sz
  sz : 0 < sz
  bytes : bytes ≠ 0

theorem app_new {t u ty e : TypeId} {sz bytes : Nat} (hT : AppT P t u e sz bytes) (hk : OK k) {xs ys : List V} {s y : Value} {n1 news : List Value} (hs : PR k.C (.slice xs true) s)
    (h1 : Src P k s xs sz n1) (h2 : Src P k y ys sz news) (hne : 0 < ys.length) (hfit : (xs.length + ys.length) * bytes ≤ 1099511627776) :
    ∃ k' x, Step k k' ∧ k'.lo = k.lo ∧ k'.h = k.h.new (.row (xs ++ ys) sz false) ∧ (Builtin.append_ #[t, u] ty #[s, y]).run P k.w = .ok x k'.w ∧ VR k' (.row k.h.c (xs.length + ys.length)) x := by
  obtain ⟨d, hu, hd⟩ := hT.u
  obtain ⟨i, z, hi, hz, hsz, hby, hzs⟩ := hT.info
  cases hs with
  | slice hcap hf ha hsl hc hp =>
    rename_i a cap sz' b o vals
    have hcapeq := hf rfl
    have hrun := append_grow (w := k.w) (ty := ty) hT.t hu hd hi hz (sLen := xs.length) (sCap := cap) (base := a) (fun W => h2.len W) (olds := n1.toArray) (news := news.toArray)
      (by rw [hsz]; exact h1.cells _ rfl) (by rw [hsz]; exact h2.cells _ rfl) (by omega) (by rw [hby]; exact hT.bytes) (by rw [hby]; omega)
    have hge := grownCap_ge k.w (xs.length + ys.length) cap e
    have hk1 := ok_drew hk
    have el : ElemsAt k.drew (xs ++ ys) sz (n1.toArray ++ news.toArray ++ Builtin.zeroCells z.cells (grownCap k.w (xs.length + ys.length) cap e - (xs.length + ys.length))) :=
      elems_append (by simpa using h1.size) (by simpa using h2.size) h1.el h2.el
    have hsize : grownCap k.w (xs.length + ys.length) cap e * sz ≤ (n1.toArray ++ news.toArray ++ Builtin.zeroCells z.cells (grownCap k.w (xs.length + ys.length) cap e - (xs.length + ys.length))).size := by
      simp only [Array.size_append, List.size_toArray, size_zeroCells, h1.size, h2.size, hzs, Nat.sub_mul, Nat.add_mul]
      have : (xs.length + ys.length) * sz ≤ grownCap k.w (xs.length + ys.length) cap e * sz := Nat.mul_le_mul_right _ hge
      rw [Nat.add_mul] at this
      omega
    obtain ⟨s1, s2⟩ := new_row (k := k.drew) (ty := e) hk1 (by rw [List.length_append]; exact hge) hsize (sizes_append h1.sz h2.sz) el
    rw [List.length_append] at s1 s2
    refine ⟨_, _, (⟨ext_drew k, hk1⟩ : Step k k.drew).trans s1, rfl, rfl, hrun, ?_⟩
    exact s2

theorem updR_same (f : Nat → Value) (i : Nat) (x : Value) : updR f i x i = x := if_pos rfl
theorem updR_other {f : Nat → Value} {i j : Nat} {x : Value} (h : j ≠ i) : updR f i x j = f j := if_neg h

theorem app_row {t u ty e : TypeId} {sz bytes : Nat} (hT : AppT P t u e sz bytes) (hk : OK k) {i n : Nat} {xs ys : List V} {s y : Value} {news : List Value} (hi : k.h.get i = some (.row xs sz false)) (hn : n = xs.length)
    (hs : VR k (.row i n) s) (h2 : Src P k y ys sz news) (hfit : (xs.length + ys.length) * bytes ≤ 1099511627776) :
    ∃ k' x, Step k k' ∧ k'.lo = k.lo ∧ k'.h = k.h.set i (.row (xs ++ ys) sz false) ∧ (Builtin.append_ #[t, u] ty #[s, y]).run P k.w = .ok x k'.w ∧ VR k' (.row i (xs.length + ys.length)) x := by
  obtain ⟨d, hu, hd⟩ := hT.u
  obtain ⟨ti, z, hti, hz, hsz, hby, hzs⟩ := hT.info
  obtain ⟨arr, te, fr, cap, c1, c0, rfl, c3, c4, c5, c6, c7⟩ := row_at hk hi hs hn
  have hfr := c0 rfl
  subst hfr
  have hlt := hk.low i _ hi
  have hrho : k.rho i = .slice (some ⟨k.pl (.o i), 0, none⟩) xs.length cap := by
    have hx' : k.I (.row i n) (.slice (some ⟨k.pl (.o i), 0, none⟩) xs.length cap) := by
      cases hs with
      | pure h => cases h
      | atom h => exact h
    exact ((hx'.2.2 xs sz false hi).2 hn).symm
  by_cases hroom : xs.length + ys.length ≤ cap
  · -- in place
    have hle : xs.length * sz + news.length ≤ arr.size := by
      rw [h2.size, ← Nat.add_mul]
      exact Nat.le_trans (Nat.mul_le_mul_right _ hroom) c4
    have hrun := append_room (w := k.w) (ty := ty) hT.t hu hd hti (sLen := xs.length) (sCap := cap) (fun W => h2.len W) (news := news) (by rw [hsz]; exact h2.cells _ rfl) hroom c1 (by rw [hsz]; exact hle) h2.one
    rw [hsz] at hrun
    let k' : Ctx := { k with h := k.h.set i (.row (xs ++ ys) sz false), w := k.w.setRow (k.pl (.o i)) (putArr (xs.length * sz) news arr), rho := updR k.rho i (.slice (some ⟨k.pl (.o i), 0, none⟩) (xs.length + ys.length) cap) }
    have hput : Put k k' (.o i) (.row xs sz false) (.row (xs ++ ys) sz false) := by
      refine ⟨hk, hi, ob_set hi _ _ _, rfl, rfl, fun j hj => updR_other (fun e => hj (by rw [e])), fun b hb => setRow_other _ _ _ _ hb, setRow_size _ _ _, fun _ _ _ => Iff.rfl, setRow_C _ (c7 rfl),
        I_set hi _ _ _ (fun cs1 fz e => by cases e) (fun xs1 sz1 fz1 e => ?_) (fun es e => by cases e) (fun j hj => updR_other hj)⟩
      simp only [Ob.row.injEq] at e
      obtain ⟨rfl, rfl, rfl⟩ := e
      refine ⟨xs, false, rfl, by simp, fun hl => ?_⟩
      rw [List.length_append] at hl
      rw [updR_same, hrho, ← hl]
    have hel : ElemsAt k (xs ++ ys) sz (putArr (xs.length * sz) news arr) := by
      intro a v j u ha hj
      by_cases h1 : a < xs.length
      · rw [List.getElem?_append_left h1] at ha
        obtain ⟨y, a1, a2, a3⟩ := c5 a v j u ha hj
        refine ⟨y, ?_, a2, a3⟩
        have hj2 := (List.getElem?_eq_some_iff.1 hj).1
        rw [c6 a v ha] at hj2
        have : (a + 1) * sz ≤ xs.length * sz := Nat.mul_le_mul_right _ h1
        rw [Nat.succ_mul] at this
        rw [putArr_get hle, if_pos (by omega)]; exact a1
      · rw [List.getElem?_append_right (by omega)] at ha
        obtain ⟨y, a1, a2, a3⟩ := h2.el _ v j u ha hj
        have hl := (Array.getElem?_eq_some_iff.1 a1).1
        simp only [List.size_toArray] at hl
        have e1 : a * sz + j = xs.length * sz + ((a - xs.length) * sz + j) := by
          rw [Nat.sub_mul]
          have : xs.length * sz ≤ a * sz := Nat.mul_le_mul_right _ (by omega)
          omega
        refine ⟨y, ?_, a2, a3⟩
        rw [e1, putArr_get hle, if_neg (by omega), if_pos (by omega), Nat.add_sub_cancel_left]
        simpa using a1
    refine ⟨k', _, ⟨hput.ext rfl rfl rfl, hput.keep ?_⟩, rfl, rfl, hrun, .atom ⟨⟨_, _, rfl⟩, hlt, fun xs' sz' fz' hg => ?_⟩⟩
    · refine ⟨⟨_, te, (0, 0), cap, setRow_heap _ _ _ _ _ _ c1, fun _ => rfl, fun j hj => ?_, by rw [List.length_append]; exact hroom, by rw [putArr_size hle]; exact c4, fun a v j u ha hj => ?_⟩, sizes_append c6 h2.sz, fun _ => c7 rfl⟩
      · injection hj with hj; subst hj; rw [List.length_append]; exact updR_same _ _ _
      · obtain ⟨y, a1, a2, a3⟩ := hel a v j u ha hj
        exact ⟨y, a1, a2.mono hput.C, a3, fun h => by cases h⟩
    · have h1 : (k.h.set i (.row (xs ++ ys) sz false)).get i = some (.row xs' sz' fz') := hg
      rw [HS.get_set_same hi] at h1
      simp only [Option.some.injEq, Ob.row.injEq] at h1
      obtain ⟨rfl, rfl, rfl⟩ := h1
      exact ⟨by rw [List.length_append]; exact Nat.le_refl _, fun _ => (updR_same _ _ _).symm⟩
  · -- in new memory
    have hsrc : Src P k (.slice (some ⟨k.pl (.o i), 0, none⟩) xs.length cap) xs sz ((List.range (xs.length * sz)).map fun n => arr.getD n .nilIface) := by
      refine src_slice (b := k.pl (.o i)) (o := 0) (fun _ => rfl) c6 _ (fun a v j u ha hj => ?_)
      obtain ⟨y, a1, a2, a3⟩ := c5 a v j u ha hj
      rw [cell_of_row _ _ _ _ _ _ c1, Nat.zero_add, a1, arr_getD a1]
      exact ⟨rfl, a2, a3⟩
    generalize hn1 : ((List.range (xs.length * sz)).map fun n => arr.getD n Value.nilIface) = n1 at hsrc
    have hrun := append_grow (w := k.w) (ty := ty) hT.t hu hd hti hz (sLen := xs.length) (sCap := cap) (fun W => h2.len W) (olds := n1.toArray) (news := news.toArray)
      (by rw [hsz]; exact hsrc.cells _ rfl) (by rw [hsz]; exact h2.cells _ rfl) (by omega) (by rw [hby]; exact hT.bytes) (by rw [hby]; omega)
    have hge := grownCap_ge k.w (xs.length + ys.length) cap e
    generalize hcap' : grownCap k.w (xs.length + ys.length) cap e = cap' at hrun hge
    generalize harr : (n1.toArray ++ news.toArray ++ Builtin.zeroCells z.cells (cap' - (xs.length + ys.length))) = arr' at hrun
    have hel : ElemsAt k (xs ++ ys) sz arr' := by
      rw [← harr]
      exact elems_append (by simpa using hsrc.size) (by simpa using h2.size) hsrc.el h2.el
    have hsize : cap' * sz ≤ arr'.size := by
      rw [← harr]
      simp only [Array.size_append, List.size_toArray, size_zeroCells, hsrc.size, h2.size, hzs, Nat.sub_mul, Nat.add_mul]
      have : (xs.length + ys.length) * sz ≤ cap' * sz := Nat.mul_le_mul_right _ hge
      rw [Nat.add_mul] at this
      omega
    let k' : Ctx := { k with h := k.h.set i (.row (xs ++ ys) sz false), w := k.w.drew.alloc (.cells arr' e), pl := upd k.pl (.o i) k.w.heap.size, rho := updR k.rho i (.slice (some ⟨k.w.heap.size, 0, none⟩) (xs.length + ys.length) cap') }
    have hlong : xs.length < (xs ++ ys).length := by rw [List.length_append]; omega
    have hC : ∀ b o x, k.C b o x → k'.C b o x := fun b o x h => ⟨h.1, cell_alloc (w := k.w.drew) h.2⟩
    have hmove : Move k k' i (.row xs sz false) (.row (xs ++ ys) sz false) := by
      refine ⟨hk, hi, fun r => ?_, rfl, rfl, fun j hj => updR_other hj, fun b hb => heap_alloc_old _ _ _ hb, by show (k.w.drew.alloc _).heap.size = _; rw [World.size_alloc]; rfl, fun _ _ => Iff.rfl, hC, fun v x hv => ?_⟩
      · cases r with
        | l t => simp [Ctx.ob, k']
        | o j =>
          by_cases ej : j = i
          · subst ej; simp [Ctx.ob, k', HS.get_set_same hi]
          · simp [Ctx.ob, k', HS.get_set_other (Ne.symm ej), ej]
      · have other : ∀ j, j ≠ i → (k.h.set i (.row (xs ++ ys) sz false)).get j = k.h.get j ∧ upd k.pl (.o i) k.w.heap.size (.o j) = k.pl (.o j) ∧ updR k.rho i (.slice (some ⟨k.w.heap.size, 0, none⟩) (xs.length + ys.length) cap') j = k.rho j :=
          fun j hj => ⟨HS.get_set_other (Ne.symm hj), upd_other (fun e => hj (by injection e)), updR_other hj⟩
        cases v <;> try exact hv
        · rename_i j off
          refine ⟨hv.1, hv.2.1, fun cs fz hg => ?_⟩
          have hg' : (k.h.set i (.row (xs ++ ys) sz false)).get j = some (.cells cs fz) := hg
          by_cases ej : j = i
          · subst ej; rw [HS.get_set_same hi] at hg'; cases hg'
          · obtain ⟨a1, a2, a3⟩ := other j ej
            rw [a1] at hg'
            show x = .pointer (some ⟨upd k.pl (.o i) k.w.heap.size (.o j), off, none⟩)
            rw [a2]; exact hv.2.2 cs fz hg'
        · rename_i j e1 idx off
          refine ⟨hv.1, hv.2.1, fun xs1 sz1 fz1 hg => ?_⟩
          have hg' : (k.h.set i (.row (xs ++ ys) sz false)).get j = some (.row xs1 sz1 fz1) := hg
          by_cases ej : j = i
          · subst ej; rw [HS.get_set_same hi] at hg'
            simp only [Option.some.injEq, Ob.row.injEq] at hg'; obtain ⟨rfl, rfl, rfl⟩ := hg'
            have := (hv.2.2 xs sz false hi).1
            exact ⟨by omega, fun h => by omega⟩
          · obtain ⟨a1, a2, a3⟩ := other j ej
            rw [a1] at hg'
            show _ ∧ (_ → x = .pointer (some ⟨upd k.pl (.o i) k.w.heap.size (.o j), _, none⟩))
            rw [a2]; exact hv.2.2 xs1 sz1 fz1 hg'
        · rename_i j e1
          refine ⟨hv.1, hv.2.1, fun xs1 sz1 fz1 hg => ?_⟩
          have hg' : (k.h.set i (.row (xs ++ ys) sz false)).get j = some (.row xs1 sz1 fz1) := hg
          by_cases ej : j = i
          · subst ej; rw [HS.get_set_same hi] at hg'
            simp only [Option.some.injEq, Ob.row.injEq] at hg'; obtain ⟨rfl, rfl, rfl⟩ := hg'
            have := (hv.2.2 xs sz false hi).1
            exact ⟨by omega, fun h => by omega⟩
          · obtain ⟨a1, a2, a3⟩ := other j ej
            rw [a1] at hg'
            show _ ∧ (_ → x = updR k.rho i _ j)
            rw [a3]; exact hv.2.2 xs1 sz1 fz1 hg'
        · rename_i j
          refine ⟨hv.1, hv.2.1, fun es hg => ?_⟩
          have hg' : (k.h.set i (.row (xs ++ ys) sz false)).get j = some (.map es) := hg
          by_cases ej : j = i
          · subst ej; rw [HS.get_set_same hi] at hg'; cases hg'
          · obtain ⟨a1, a2, a3⟩ := other j ej
            rw [a1] at hg'
            show x = .map (some (upd k.pl (.o i) k.w.heap.size (.o j)))
            rw [a2]; exact hv.2.2 es hg'
    have hpl : k'.pl (.o i) = k.w.heap.size := upd_same _ _ _
    refine ⟨k', _, ⟨hmove.ext rfl rfl rfl, hmove.keep ?_⟩, rfl, rfl, hrun, .atom ⟨⟨_, _, rfl⟩, hlt, fun xs' sz' fz' hg => ?_⟩⟩
    · refine ⟨⟨arr', e, (0, 0), cap', ?_, fun _ => rfl, fun j hj => ?_, by rw [List.length_append]; exact hge, hsize, fun a v j u ha hj => ?_⟩, sizes_append c6 h2.sz, fun _ o hs => ?_⟩
      · rw [hpl]; exact heap_alloc_new k.w.drew _
      · injection hj with hj; subst hj; rw [List.length_append, hpl]; exact updR_same _ _ _
      · obtain ⟨y, a1, a2, a3⟩ := hel a v j u ha hj
        exact ⟨y, a1, a2.mono hC, a3, fun h => by cases h⟩
      · rw [hpl] at hs; have := hk.lt _ _ hs; omega
    · have h1 : (k.h.set i (.row (xs ++ ys) sz false)).get i = some (.row xs' sz' fz') := hg
      rw [HS.get_set_same hi] at h1
      simp only [Option.some.injEq, Ob.row.injEq] at h1
      obtain ⟨rfl, rfl, rfl⟩ := h1
      exact ⟨by rw [List.length_append]; exact Nat.le_refl _, fun _ => (updR_same _ _ _).symm⟩
end
end Go.Proofs.YthpggdlhoegndaaDoor.LM
