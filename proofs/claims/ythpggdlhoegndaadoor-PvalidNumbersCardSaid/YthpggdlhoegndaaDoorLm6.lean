/-
  STORES, ROWS THAT GROW, WHAT IS STILLED, MAPS: the objects as they stand then.
-/
import Derived.Test.YthpggdlhoegndaaDoorLm5
set_option linter.all false
namespace Go.Proofs.YthpggdlhoegndaaDoor.LM
open Go

theorem beq_nat {a b : Nat} (h : Nat.beq a b = true) : a = b := Nat.eq_of_beq_eq_true h

/-! ### cells of values -/
theorem I_one {k : Ctx} {v : V} {x : Value} (h : k.I v x) (hu : v ≠ .undef) : x.oneCell' = true := by
  cases v <;> first
    | exact absurd rfl hu
    | (obtain ⟨⟨_, _, rfl⟩, _⟩ := h; rfl)
    | (obtain ⟨⟨_, rfl⟩, _⟩ := h; rfl)
    | exact h.elim
theorem pr_one {C : Cell} {v : V} {x : Value} (h : PR C v x) (ho : v.one = true) : x.oneCell' = true := by
  cases h <;> first | rfl | cases ho
theorem vr_one {k : Ctx} {v : V} {x : Value} (h : VR k v x) (ho : v.one = true) : x.oneCell' = true := by
  cases h with
  | pure h => exact pr_one h ho
  | atom h => exact I_one h (fun e => by subst e; cases ho)
  | func => rfl
  | iface => rfl
  | agg => cases ho
  | tuple => cases ho
theorem cells_one {x : Value} (h : x.oneCell' = true) : x.cells = #[x] := by cases x <;> first | rfl | cases h
theorem cells_single {v : V} (h : v.one = true) : v.cells = [v] := by cases v <;> first | rfl | cases h
theorem single_rel {k : Ctx} {v : V} {x : Value} (h : VR k v x) (h1 : v.cells = [v]) (h2 : x.cells = #[x]) :
    x.cells.size = v.cells.length ∧ ∀ (j : Nat) (u : V) (y : Value), v.cells[j]? = some u → x.cells[j]? = some y → VR k u y := by
  rw [h1, h2]
  refine ⟨rfl, fun j u y hj hy => ?_⟩
  cases j with
  | zero => simp at hj hy; subst hj; subst hy; exact h
  | succ j => simp at hj
theorem cells_rel {k : Ctx} {v : V} {x : Value} (h : VR k v x) (hu : v ≠ .undef) : x.cells.size = v.cells.length ∧ ∀ (j : Nat) (u : V) (y : Value), v.cells[j]? = some u → x.cells[j]? = some y → VR k u y := by
  cases v with
  | undef => exact absurd rfl hu
  | agg cs => cases h with
    | pure h => cases h with
      | agg hl hc => exact ⟨hl, fun j u y hj hy => .pure (hc j u y hj hy)⟩
    | atom h => exact h.elim
    | agg hl hc => exact ⟨hl, hc⟩
  | tuple cs =>
    refine single_rel h rfl ?_
    cases h with
    | pure h => cases h; rfl
    | atom h => exact h.elim
    | tuple => rfl
  | _ => exact single_rel h rfl (cells_one (vr_one h rfl))
theorem cells_put {k : Ctx} {v : V} {x : Value} (h : VR k v x) (ho : v.cells.all V.one = true) (hu : v ≠ .undef) :
    x.cells.size = v.cells.length ∧ ∀ (j : Nat) (u : V) (y : Value), v.cells[j]? = some u → x.cells[j]? = some y → VR k u y ∧ y.oneCell' = true := by
  obtain ⟨h1, h2⟩ := cells_rel h hu
  exact ⟨h1, fun j u y hj hy => ⟨h2 j u y hj hy, vr_one (h2 j u y hj hy) (List.all_eq_true.1 ho u (List.mem_of_getElem? hj))⟩⟩
theorem pure_undef {v : V} (h : v.pure = true) : v ≠ .undef := fun e => by subst e; cases h
theorem pureCell_one {v : V} (h : v.pureCell = true) : v.one = true := by cases v <;> first | rfl | cases h
theorem pureIf_one {v : V} (h : v.pureIf = true) : v.one = true := by cases v <;> first | rfl | cases h
theorem pure_cells_if {v : V} (h : v.pure = true) (u : V) (hu : u ∈ v.cells) : u.pureIf = true := by
  cases v <;> first
    | exact List.all_eq_true.1 h u hu
    | (simp only [V.cells, List.mem_singleton] at hu; subst hu; exact h)
/-- a pure value's cells -/
theorem cells_pure {k : Ctx} {v : V} {x : Value} (h : VR k v x) (hp : v.pure = true) :
    x.cells.size = v.cells.length ∧ ∀ (j : Nat) (u : V) (y : Value), v.cells[j]? = some u → x.cells[j]? = some y → PR k.C u y ∧ y.oneCell' = true := by
  obtain ⟨h1, h2⟩ := cells_rel h (pure_undef hp)
  exact ⟨h1, fun j u y hj hy => by
    have hu := pure_cells_if hp u (List.mem_of_getElem? hj)
    exact ⟨pr_if (h2 j u y hj hy) hu, vr_one (h2 j u y hj hy) (pureIf_one hu)⟩⟩

/-! ### lists of cells that are written over -/
theorem putCells_length {off : Nat} {vs cs : List V} (h : off + vs.length ≤ cs.length) : (putCells off vs cs).length = cs.length := by
  simp only [putCells, List.length_append, List.length_take, List.length_drop]; omega
theorem putCells_get {off : Nat} {vs cs : List V} (h : off + vs.length ≤ cs.length) (j : Nat) :
    (putCells off vs cs)[j]? = if j < off then cs[j]? else if j < off + vs.length then vs[j - off]? else cs[j]? := by
  have ht : (cs.take off).length = off := by rw [List.length_take]; omega
  simp only [putCells, List.append_assoc]
  by_cases h1 : j < off
  · rw [if_pos h1, List.getElem?_append_left (by omega), List.getElem?_take, if_pos h1]
  · rw [if_neg h1, List.getElem?_append_right (by omega), ht]
    by_cases h2 : j < off + vs.length
    · rw [if_pos h2, List.getElem?_append_left (by omega)]
    · rw [if_neg h2, List.getElem?_append_right (by omega), List.getElem?_drop]
      congr 1; omega
def putArr (off : Nat) (vs : List Value) (arr : Array Value) : Array Value := (arr.toList.take off ++ vs ++ arr.toList.drop (off + vs.length)).toArray
theorem putArr_size {off : Nat} {vs : List Value} {arr : Array Value} (h : off + vs.length ≤ arr.size) : (putArr off vs arr).size = arr.size := by
  simp only [putArr, List.size_toArray, List.length_append, List.length_take, List.length_drop, Array.length_toList]; omega
theorem putArr_get {off : Nat} {vs : List Value} {arr : Array Value} (h : off + vs.length ≤ arr.size) (j : Nat) :
    (putArr off vs arr)[j]? = if j < off then arr[j]? else if j < off + vs.length then vs[j - off]? else arr[j]? := by
  have hl : arr.toList.length = arr.size := Array.length_toList
  have ht : (arr.toList.take off).length = off := by rw [List.length_take]; omega
  simp only [putArr, List.append_assoc, List.getElem?_toArray]
  by_cases h1 : j < off
  · rw [if_pos h1, List.getElem?_append_left (by omega), List.getElem?_take, if_pos h1]; simp
  · rw [if_neg h1, List.getElem?_append_right (by omega), ht]
    by_cases h2 : j < off + vs.length
    · rw [if_pos h2, List.getElem?_append_left (by omega)]
    · rw [if_neg h2, List.getElem?_append_right (by omega), List.getElem?_drop]
      have : off + vs.length + (j - off - vs.length) = j := by omega
      rw [this]; simp

/-! ### a store into cells of one's own -/
theorem setRow_C {k : Ctx} {g : Nat} (arr : Array Value) (hn : ∀ o, ¬ k.S g o) (b o : Nat) (x : Value) (h : k.C b o x) : k.S b o ∧ (k.w.setRow g arr).cell? ⟨b, o, none⟩ = some x := by
  refine ⟨h.1, ?_⟩
  rw [cell_setRow_other _ _ _ _ (fun e => hn o (by have := h.1; rw [← e]; exact this))]; exact h.2
theorem put_loc {k : Ctx} (hk : OK k) {t g : Nat} {cs cs' : List V} (hd : k.lo[t]? = some (g, cs)) (hg : 0 < g) (arr : Array Value) :
    Put k { k with lo := k.lo.set t (g, cs'), w := k.w.setRow (k.pl (.l t)) arr } (.l t) (.cells cs false) (.cells cs' false) := by
  have hlt : t < k.lo.length := (List.getElem?_eq_some_iff.1 hd).1
  have was : k.ob (.l t) = some (.cells cs false) := by simp [Ctx.ob, hd]; omega
  have hn := (hk.at_ _ _ was).2 rfl
  refine ⟨hk, was, fun r => ?_, rfl, rfl, fun _ _ => rfl, fun b hb => setRow_other _ _ _ _ hb, setRow_size _ _ _, fun _ _ _ => Iff.rfl, setRow_C arr hn, fun v x hv => ?_⟩
  · cases r with
    | o i => simp [Ctx.ob]
    | l u =>
      by_cases e : u = t
      · subst e; simp [Ctx.ob, hlt]; omega
      · simp [Ctx.ob, Ne.symm e, e]
  · cases v <;> try exact hv
    rename_i u g1 off
    obtain ⟨h0, g', cs1, h1, h2, h3, h4⟩ := hv
    by_cases e : u = t
    · subst e
      rw [hd] at h1; simp only [Option.some.injEq, Prod.mk.injEq] at h1; obtain ⟨rfl, rfl⟩ := h1
      exact ⟨h0, g, cs', by simp [hlt], h2, h3, h4⟩
    · exact ⟨h0, g', cs1, by simp [Ne.symm e, h1], h2, h3, h4⟩
/-- the numbers' meaning where an object is written over and no row has another length, nor moves -/
theorem I_set {k : Ctx} {i : Nat} {o p : Ob} (hi : k.h.get i = some o) (w : World) (rho : Nat → Value) (S : Nat → Nat → Prop)
    (hc : ∀ cs fz, p = .cells cs fz → ∃ cs' fz', o = .cells cs' fz')
    (hr : ∀ xs sz fz, p = .row xs sz fz → ∃ xs' fz', o = .row xs' sz fz' ∧ xs'.length ≤ xs.length ∧ (xs'.length = xs.length → rho i = k.rho i))
    (hm : ∀ es, p = .map es → ∃ es', o = .map es') (ho : ∀ j, j ≠ i → rho j = k.rho j) (v : V) (x : Value) (h : k.I v x) :
    Ctx.I { k with h := k.h.set i p, w := w, rho := rho, S := S } v x := by
  cases v <;> try exact h
  · rename_i j off
    refine ⟨h.1, h.2.1, fun cs fz hg => ?_⟩
    by_cases e : i = j
    · subst e
      have hg' : (k.h.set i p).get i = some (.cells cs fz) := hg
      rw [HS.get_set_same hi] at hg'
      obtain ⟨cs', fz', e⟩ := hc cs fz (by simpa using hg')
      exact h.2.2 cs' fz' (by rw [hi, e])
    · exact h.2.2 cs fz (by have : (k.h.set i p).get j = _ := hg; rwa [HS.get_set_other e] at this)
  · rename_i j e idx off
    refine ⟨h.1, h.2.1, fun xs sz fz hg => ?_⟩
    by_cases ej : i = j
    · subst ej
      have hg' : (k.h.set i p).get i = some (.row xs sz fz) := hg
      rw [HS.get_set_same hi] at hg'
      obtain ⟨xs', fz', e1, e2, e3⟩ := hr xs sz fz (by simpa using hg')
      obtain ⟨a1, a2⟩ := h.2.2 xs' sz fz' (by rw [hi, e1])
      exact ⟨by omega, fun he => a2 (by omega)⟩
    · exact h.2.2 xs sz fz (by have : (k.h.set i p).get j = _ := hg; rwa [HS.get_set_other ej] at this)
  · rename_i j e
    refine ⟨h.1, h.2.1, fun xs sz fz hg => ?_⟩
    by_cases ej : i = j
    · subst ej
      have hg' : (k.h.set i p).get i = some (.row xs sz fz) := hg
      rw [HS.get_set_same hi] at hg'
      obtain ⟨xs', fz', e1, e2, e3⟩ := hr xs sz fz (by simpa using hg')
      obtain ⟨a1, a2⟩ := h.2.2 xs' sz fz' (by rw [hi, e1])
      exact ⟨by omega, fun he => (a2 (by omega)).trans (e3 (by omega)).symm⟩
    · obtain ⟨a1, a2⟩ := h.2.2 xs sz fz (by have : (k.h.set i p).get j = _ := hg; rwa [HS.get_set_other ej] at this)
      exact ⟨a1, fun he => (a2 he).trans (ho j (Ne.symm ej)).symm⟩
  · rename_i j
    refine ⟨h.1, h.2.1, fun es hg => ?_⟩
    by_cases e : i = j
    · subst e
      have hg' : (k.h.set i p).get i = some (.map es) := hg
      rw [HS.get_set_same hi] at hg'
      obtain ⟨es', e⟩ := hm es (by simpa using hg')
      exact h.2.2 es' (by rw [hi, e])
    · exact h.2.2 es (by have : (k.h.set i p).get j = _ := hg; rwa [HS.get_set_other e] at this)
theorem ob_set {k : Ctx} {i : Nat} {o p : Ob} (hi : k.h.get i = some o) (w : World) (rho : Nat → Value) (S : Nat → Nat → Prop) (r : Key) :
    Ctx.ob { k with h := k.h.set i p, w := w, rho := rho, S := S } r = if r = .o i then some p else k.ob r := by
  cases r with
  | l t => simp [Ctx.ob]
  | o j =>
    by_cases e : j = i
    · subst e; simp [Ctx.ob, HS.get_set_same hi]
    · simp [Ctx.ob, HS.get_set_other (Ne.symm e), e]
end Go.Proofs.YthpggdlhoegndaaDoor.LM
