/-
  ONE OPERATION: all of them.
-/
import Derived.Test.YthpggdlhoegndaaDoorLm22
set_option linter.all false
namespace Go.Proofs.YthpggdlhoegndaaDoor.LM
open Go

section
variable {P : Program} {G : Nat → Option (List V)} {fz esc : Nat → Bool} {k : Ctx} {cf : Cfg} {ev : Ev} {s s' : St} {out : Out} {a : Act}

theorem args_of (hG : GR G k) (hf : FR k s.fr a.tmps) {l : List Operand} {xs : List X} (h : ofXs G l = some xs) :
    (xs.map (X.eval s.fr)).length = l.length ∧ ∀ (i : Nat) (v : V) (o : Operand), (xs.map (X.eval s.fr))[i]? = some v → l[i]? = some o → VR k v (a.eval o) := by
  obtain ⟨h1, h2⟩ := mapO_some h
  refine ⟨by simp [h1], fun i v o hi ho => ?_⟩
  obtain ⟨x, hx, hxi⟩ := h2 i o ho
  simp only [List.getElem?_map, hxi, Option.map_some, Option.some.injEq] at hi
  subst hi
  exact eval_rel hG hf hx
theorem arg1 (hG : GR G k) (hf : FR k s.fr a.tmps) {x : Operand} {xs : List X} (h : ofXs G [x] = some xs) : ∃ v, xs.map (X.eval s.fr) = [v] ∧ VR k v (a.eval x) := by
  obtain ⟨h1, h2⟩ := args_of (s := s) hG hf h
  generalize xs.map (X.eval s.fr) = l at h1 h2
  match l, h1 with
  | [v], _ => exact ⟨v, rfl, h2 0 v x rfl rfl⟩
theorem arg2 (hG : GR G k) (hf : FR k s.fr a.tmps) {x y : Operand} {xs : List X} (h : ofXs G [x, y] = some xs) : ∃ v w, xs.map (X.eval s.fr) = [v, w] ∧ VR k v (a.eval x) ∧ VR k w (a.eval y) := by
  obtain ⟨h1, h2⟩ := args_of (s := s) hG hf h
  generalize xs.map (X.eval s.fr) = l at h1 h2
  match l, h1 with
  | [v, w], _ => exact ⟨v, w, rfl, h2 0 v x rfl rfl, h2 1 w y rfl rfl⟩
theorem arg3 (hG : GR G k) (hf : FR k s.fr a.tmps) {x y z : Operand} {xs : List X} (h : ofXs G [x, y, z] = some xs) : ∃ v w u, xs.map (X.eval s.fr) = [v, w, u] ∧ VR k v (a.eval x) ∧ VR k w (a.eval y) ∧ VR k u (a.eval z) := by
  obtain ⟨h1, h2⟩ := args_of (s := s) hG hf h
  generalize xs.map (X.eval s.fr) = l at h1 h2
  match l, h1 with
  | [v, w, u], _ => exact ⟨v, w, u, rfl, h2 0 v x rfl rfl, h2 1 w y rfl rfl, h2 2 u z rfl rfl⟩
/-- an operand that may be there, and two of those behind another -/
theorem args_cut (hG : GR G k) (hf : FR k s.fr a.tmps) {x : Operand} {lo hi : Option Operand} {xs : List X} (h : ofXs G ([x] ++ lo.toList ++ hi.toList) = some xs) :
    ∃ v, ∃ lo' hi' : Option (V × Value), xs.map (X.eval s.fr) = v :: ((lo'.map (·.1)).toList ++ (hi'.map (·.1)).toList) ∧ VR k v (a.eval x) ∧ lo'.isSome = lo.isSome ∧ hi'.isSome = hi.isSome ∧ lo'.map (·.2) = lo.map a.eval ∧ hi'.map (·.2) = hi.map a.eval ∧
      (∀ p, lo' = some p → VR k p.1 p.2) ∧ ∀ p, hi' = some p → VR k p.1 p.2 := by
  cases lo with
  | none => cases hi with
    | none =>
      obtain ⟨v, e, hv⟩ := arg1 (s := s) hG hf (x := x) h
      exact ⟨v, none, none, e, hv, rfl, rfl, rfl, rfl, fun _ h => (by cases h), fun _ h => (by cases h)⟩
    | some y =>
      obtain ⟨v, w, e, hv, hw⟩ := arg2 (s := s) hG hf (x := x) (y := y) h
      exact ⟨v, none, some (w, a.eval y), e, hv, rfl, rfl, rfl, rfl, fun _ h => (by cases h), fun p h => (by cases h; exact hw)⟩
  | some z => cases hi with
    | none =>
      obtain ⟨v, w, e, hv, hw⟩ := arg2 (s := s) hG hf (x := x) (y := z) h
      exact ⟨v, some (w, a.eval z), none, e, hv, rfl, rfl, rfl, rfl, fun p h => (by cases h; exact hw), fun _ h => (by cases h)⟩
    | some y =>
      obtain ⟨v, w, u, e, hv, hw, hu⟩ := arg3 (s := s) hG hf (x := x) (y := z) (z := y) h
      exact ⟨v, some (w, a.eval z), some (u, a.eval y), e, hv, rfl, rfl, rfl, rfl, fun p h => (by cases h; exact hw), fun p h => (by cases h; exact hu)⟩
theorem parts_of (hG : GR G k) (hf : FR k s.fr a.tmps) {ps : Array (Nat × Operand)} {xs : List X} (h : ofXs G (ps.toList.map (·.2)) = some xs) :
    (ps.map fun (i, x) => (i, a.eval x)).size = (xs.map (X.eval s.fr)).length ∧ ∀ (i : Nat) (v : V) (x : Nat × Value), (xs.map (X.eval s.fr))[i]? = some v → (ps.map fun (i, x) => (i, a.eval x))[i]? = some x → VR k v x.2 := by
  obtain ⟨h1, h2⟩ := args_of (s := s) hG hf h
  refine ⟨by rw [h1]; simp, fun i v x hi hx => ?_⟩
  simp only [Array.getElem?_map, Option.map_eq_some_iff] at hx
  obtain ⟨p, hp, rfl⟩ := hx
  exact h2 i v p.2 hi (by simp only [List.getElem?_map, Array.getElem?_toList, hp, Option.map_some])
theorem parts_fst {ps : Array (Nat × Operand)} (a : Act) : (ps.map fun (i, x) => (i, a.eval x)).toList.map (·.1) = ps.toList.map (·.1) := by
  simp only [Array.toList_map, List.map_map]; rfl
theorem argsArr (hG : GR G k) (hf : FR k s.fr a.tmps) {l : Array Operand} {xs : List X} (h : ofXs G l.toList = some xs) :
    Args k (xs.map (X.eval s.fr)) (l.map a.eval) := by
  obtain ⟨h1, h2⟩ := args_of (s := s) hG hf h
  refine ⟨by rw [h1]; simp, fun i v x hi hx => ?_⟩
  simp only [Array.getElem?_map, Option.map_eq_some_iff] at hx
  obtain ⟨o, ho, rfl⟩ := hx
  exact h2 i v o hi (by simpa using ho)

def OpDid (P : Program) (G : Nat → Option (List V)) (k : Ctx) (cf : Cfg) (ev : Ev) (s : St) (a : Act) (o : Oper) (lop : LOp) (xs0 : List Operand) : Prop :=
  ∀ (xs : List X) (out : Out) (s' : St), ofXs G xs0 = some xs → exec1 (plan cf ev o.dst lop (xs.map (X.eval s.fr))) s = some (out, s') → Did P k s' out ((execOp a.eval o).run P k.w)

theorem did_call {f : Nat} {args : Array Value} (hev : CallSound P G ev) (hs : At k s) (hG : GR G k) {vs : List V} (ha : Args k vs args) (d : Option Nat) (he : exec1 (plan cf ev d (.call f) vs) s = some (out, s')) :
    Did P k s' out ((callFunc f args).run P k.w) := callV_did hev hs.ok hG hs.lo hs.h ha he
theorem did_callv {v : V} {x : Value} {args : Array Value} (hev : CallSound P G ev) (hs : At k s) (hG : GR G k) {vs : List V} (hv : VR k v x) (ha : Args k vs args) (d : Option Nat) (he : exec1 (plan cf ev d .callv (v :: vs)) s = some (out, s')) :
    Did P k s' out (Sem.run P (do let d ← Deferred.ofValue x args; invoke d.target d.args) k.w) := by
  cases v <;> first
    | exact dead he rfl
    | skip
  rename_i f caps
  obtain ⟨caps', rfl, hl, hc⟩ := func_inv hv
  have hargs : Args k (vs ++ caps) (args ++ caps') := by
    refine ⟨by simp [ha.1, hl], fun i v x hi hx => ?_⟩
    by_cases h : i < vs.length
    · rw [List.getElem?_append_left h] at hi
      rw [Array.getElem?_append_left (by rw [ha.1]; exact h)] at hx
      exact ha.2 i v x hi hx
    · rw [List.getElem?_append_right (by omega)] at hi
      rw [Array.getElem?_append_right (by rw [ha.1]; omega), ha.1] at hx
      exact hc _ v x hi hx
  have := callV_did (cf := cf) (s' := s') (out := out) hev hs.ok hG hs.lo hs.h hargs he
  simpa [Deferred.ofValue, invoke] using this
end
end Go.Proofs.YthpggdlhoegndaaDoor.LM
