/-
  ARITHMETIC, CONVERSIONS, what is built and cut: the model's operations held against the logical ones.
-/
import Derived.Test.YthpggdlhoegndaaDoorLm8
set_option linter.all false
namespace Go.Proofs.YthpggdlhoegndaaDoor.LM
open Go

theorem bif_not {α : Type} {c : Prop} [Decidable c] {x : Option α} {v : α} (h : (bif decide c then none else x) = some v) : ¬ c ∧ x = some v := by
  by_cases hc : c
  · simp [hc] at h
  · simp [hc] at h; exact ⟨hc, h⟩
theorem bif_yes {α : Type} {b : Bool} {x : Option α} {v : α} (h : (bif b then x else none) = some v) : b = true ∧ x = some v := by
  cases b
  · cases h
  · exact ⟨rfl, h⟩

section
variable {P : Program} {k : Ctx}

theorem bin_run {o : BinOp} {vx vy v : V} {x y : Value} (t : TypeId) (X Y : Operand) (hx : VR k vx x) (hy : VR k vy y) (h : binV o vx vy = some v) (w : World) :
    ∃ z, ((do eqGuard o t X Y x y; binOp o t x y) : Sem Value).run P w = .ok z w ∧ VR k v z := by
  cases vx <;> cases vy <;> first
    | (simp only [binV] at h; cases h; done)
    | skip
  · rename_i k1 a k2 b
    have hb := int_inv hx
    have hc := int_inv hy
    subst hb hc
    rw [eqGuard_at_int]
    simp only [Sem.run_bind, Sem.run_pure, Result.andThen_ok]
    have sh : ∀ {o : BinOp}, (o = .shl ∨ o = .shr) → shiftV o k1 a b = some v → ∃ z, Sem.run P (Op.shift o k1 a k2 b) w = Result.ok z w ∧ VR k v z := by
      intro o ho h
      obtain ⟨h0, h⟩ := bif_not h
      rcases ho with rfl | rfl
      · simp only [Option.some.injEq] at h; subst h
        exact ⟨_, by simp only [Op.shift, if_neg h0]; rfl, .pure (.int _ _)⟩
      · simp only [Option.some.injEq] at h; subst h
        exact ⟨_, by simp only [Op.shift, if_neg h0]; rfl, .pure (.int _ _)⟩
    have cs : (o = .shl ∨ o = .shr) ∨ ¬ (o = .shl ∨ o = .shr) := Classical.em _
    rcases cs with ho | ho
    · have h' : shiftV o k1 a b = some v := by rcases ho with rfl | rfl <;> exact h
      obtain ⟨z, hz, hv⟩ := sh ho h'
      refine ⟨z, ?_, hv⟩
      rcases ho with rfl | rfl <;> exact hz
    · by_cases hk : k1 = k2
      · subst hk
        cases o <;> first
          | exact absurd (.inl rfl) ho
          | exact absurd (.inr rfl) ho
          | skip
        case quo =>
          simp only [binV, decide_true, cond_true, arith] at h
          obtain ⟨h0, h⟩ := bif_not h
          simp only [Option.some.injEq] at h; subst h
          exact ⟨_, by simp [binOp, Op.intDiv, h0] <;> rfl, .pure (.int _ _)⟩
        case rem =>
          simp only [binV, decide_true, cond_true, arith] at h
          obtain ⟨h0, h⟩ := bif_not h
          simp only [Option.some.injEq] at h; subst h
          exact ⟨_, by simp [binOp, Op.intDiv, h0] <;> rfl, .pure (.int _ _)⟩
        all_goals
          simp [binV, arith, bit] at h
          subst h
          exact ⟨_, by simp [binOp, Op.intArith, Op.intBits, Op.intCmp] <;> rfl, .pure (by first | exact .int _ _ | exact .bool _)⟩
      · cases o <;> first
          | exact absurd (.inl rfl) ho
          | exact absurd (.inr rfl) ho
          | (simp [binV, hk] at h; done)
  · rename_i a b
    obtain ⟨s, rfl, hs⟩ := str_inv hx
    obtain ⟨u, rfl, hu⟩ := str_inv hy
    rw [eqGuard_at_string]
    simp only [Sem.run_bind, Sem.run_pure, Result.andThen_ok]
    have e1 : (s.toList == u.toList) = (a == b) := by rw [ByteArray.toList_eq, ByteArray.toList_eq, hs, hu]
    have e2 : Op.bytesLess s.toList u.toList = Op.bytesLess a b := by rw [ByteArray.toList_eq, ByteArray.toList_eq, hs, hu]
    cases o
    case add =>
      simp only [binV, strOp] at h
      obtain ⟨h0, h⟩ := bif_not h
      simp only [Option.some.injEq] at h; subst h
      have l1 : s.size = a.length := by rw [← hs, Array.length_toList]; rfl
      have l2 : u.size = b.length := by rw [← hu, Array.length_toList]; rfl
      refine ⟨.string (s ++ u), ?_, .pure (.str ?_)⟩
      · have h1 : ¬ (((s.size + u.size : Nat) : Int) > IntKind.i64.max) := by rw [l1, l2]; exact h0
        simp only [binOp, Op.stringOp, if_neg h1]; rfl
      · show (s ++ u).data.toList = _
        rw [ByteArray.data_append]; simp [hs, hu]
    all_goals
      simp [binV, strOp] at h
      try (subst h; exact ⟨_, by simp [binOp, Op.stringOp, e1, e2] <;> rfl, .pure (.bool _)⟩)

theorem eqb_run {t : TypeId} {neg : Bool} {a b : Bool} {x y : Value} (X Y : Operand) (hu : P.underlying t = some .bool) (hx : VR k (.bool a) x) (hy : VR k (.bool b) y) (w : World) :
    ((do eqGuard (if neg then .neq else .eql) t X Y x y; binOp (if neg then .neq else .eql) t x y) : Sem Value).run P w = .ok (.bool (neg ^^ (a == b))) w := by
  rw [bool_inv hx, bool_inv hy, eqGuard_at_bool]
  cases neg
  · simp [binOp, Op.equal, Op.maxDepth, run_equalIn_bool' _ _ _ _ _ hu]
  · simp [binOp, Op.equal, Op.maxDepth, run_equalIn_bool' _ _ _ _ _ hu]
theorem eqa_run {t : TypeId} {neg : Bool} {ks : List TK} {cs ds : List V} {x y : Value} {r : Bool} (X Y : Operand) (hk : kindsT P 20 t = some ks) (hag : aggT P t = some true) (hm : P.eqGuardType P.depth t = false)
    (hx : VR k (.agg cs) x) (hy : VR k (.agg ds) y) (h : eqCells ks cs ds = some r) (w : World) :
    ((do eqGuard (if neg then .neq else .eql) t X Y x y; binOp (if neg then .neq else .eql) t x y) : Sem Value).run P w = .ok (.bool (neg ^^ r)) w := by
  obtain ⟨xs, rfl, l1, c1⟩ := agg_inv hx
  obtain ⟨ys, rfl, l2, c2⟩ := agg_inv hy
  have he := eq_at 20 t ks cs ds xs ys r hk hag ⟨l1, c1⟩ ⟨l2, c2⟩ h 10000 (by omega) w
  cases neg
  · simp [run_eqGuard_agg, hm, run_eql_struct, he]
  · simp [run_eqGuard_agg, hm, run_neq_struct, he]
theorem un_run {o : UnOp} {vx v : V} {x : Value} (hx : VR k vx x) (h : unV o vx = some v) (w : World) : ∃ z, (Op.unary o x).run P w = .ok z w ∧ VR k v z := by
  cases o <;> cases vx <;> first
    | (simp only [unV] at h; cases h; done)
    | skip
  · rename_i k1 n
    rw [int_inv hx]
    simp only [unV, Option.some.injEq] at h; subst h
    exact ⟨_, by simp [Op.unary, Op.intArith] <;> rfl, .pure (.int _ _)⟩
  · rename_i k1 n
    rw [int_inv hx]
    simp only [unV, bit, Option.some.injEq] at h; subst h
    exact ⟨_, by simp [Op.unary, Op.intBits] <;> rfl, .pure (.int _ _)⟩
  · rename_i b
    rw [bool_inv hx]
    simp only [unV, Option.some.injEq] at h; subst h
    exact ⟨_, by simp [Op.unary] <;> rfl, .pure (.bool _)⟩

/-! ### what is built -/
theorem foldl_put (off : Nat) : ∀ (l : List Value) (i : Nat) (cs : Array Value), off + i + l.length ≤ cs.size →
    (l.zipIdx i).foldl (fun cs (c, j) => cs.setIfInBounds (off + j) c) cs = putArr (off + i) l cs
  | [], i, cs, _ => by
    simp [putArr]
  | c :: l, i, cs, h => by
    simp only [List.length_cons] at h
    simp only [List.zipIdx_cons, List.foldl_cons]
    rw [foldl_put off l (i + 1) _ (by simp; omega)]
    apply Array.ext_getElem?
    intro j
    rw [putArr_get (by simp; omega), putArr_get (by simp only [List.length_cons]; omega)]
    simp only [List.length_cons, Array.getElem?_setIfInBounds]
    by_cases h1 : j < off + i
    · rw [if_pos (by omega), if_neg (by omega), if_pos h1]
    · rw [if_neg h1]
      by_cases h2 : j = off + i
      · subst h2
        rw [if_pos (by omega), if_pos rfl, if_pos (by omega), if_pos (by omega)]; simp
      · rw [if_neg (by omega)]
        by_cases h3 : j < off + (i + 1) + l.length
        · rw [if_pos h3, if_pos (by omega)]
          have e : j - (off + i) = (j - (off + (i + 1))) + 1 := by omega
          rw [e, List.getElem?_cons_succ]
        · rw [if_neg h3, if_neg (by omega), if_neg (by omega)]
theorem fill_rel {R : V → Value → Prop} (pl : Nat → Option (Nat × Nat)) : ∀ (ps : List (Nat × Value)) (zs : List (Nat × Nat)) (vs cs cs' : List V) (arr : Array Value), RG R cs arr →
    mapO (fun i => pl i) (ps.map (·.1)) = some zs → ps.length = vs.length → (∀ (i : Nat) (v : V) (x : Nat × Value), vs[i]? = some v → ps[i]? = some x → x.2.cells.size = v.cells.length ∧ ∀ (j : Nat) (u : V) (y : Value), v.cells[j]? = some u → x.2.cells[j]? = some y → R u y) →
    fillCells cs zs vs = some cs' → ∃ arr', Instr.fill pl arr ps = some arr' ∧ RG R cs' arr'
  | [], zs, vs, cs, cs', arr, hr, hz, hl, hv, h => by
    simp only [List.map_nil, mapO, Option.some.injEq] at hz; subst hz
    cases vs with
    | nil => simp only [fillCells, Option.some.injEq] at h; subst h; exact ⟨arr, rfl, hr⟩
    | cons v vs => simp at hl
  | (i, x) :: ps, zs, vs, cs, cs', arr, hr, hz, hl, hv, h => by
    cases vs with
    | nil => simp at hl
    | cons v vs =>
      simp only [List.map_cons, mapO] at hz
      cases hp : pl i with
      | none => rw [hp] at hz; cases hz
      | some z =>
        obtain ⟨off, sz⟩ := z
        rw [hp] at hz
        simp only at hz
        split at hz
        · rename_i zs' hzs
          simp only [Option.some.injEq] at hz; subst hz
          simp only [fillCells] at h
          obtain ⟨hb, h⟩ := bif_yes h
          simp only [Bool.and_eq_true] at hb
          have hsz := beq_nat hb.1
          have hle := Nat.le_of_ble_eq_true hb.2
          obtain ⟨xl, xc⟩ := hv 0 v (i, x) rfl rfl
          simp only at xl xc
          have xs : x.cells.toList.length = sz := by rw [Array.length_toList, xl, hsz]
          have harr := hr.1
          have hput : x.cells.zipIdx.foldl (fun cs (c, j) => cs.setIfInBounds (off + j) c) arr = putArr off x.cells.toList arr := by
            rw [← Array.foldl_toList, Array.toList_zipIdx]
            exact foldl_put off x.cells.toList 0 arr (by rw [xs]; omega)
          have hr2 : RG R (putCells off v.cells cs) (putArr off x.cells.toList arr) := by
            refine ⟨by rw [putArr_size (by rw [xs]; omega), putCells_length (by omega)]; exact harr, fun j u y hj hy => ?_⟩
            rw [putCells_get (by omega)] at hj
            rw [putArr_get (by rw [xs]; omega)] at hy
            rw [xs] at hy; rw [hsz] at hj
            by_cases h1 : j < off
            · rw [if_pos h1] at hj hy; exact hr.2 _ _ _ hj hy
            · rw [if_neg h1] at hj hy
              by_cases h2 : j < off + sz
              · rw [if_pos h2] at hj hy; exact xc _ _ _ hj (by simpa using hy)
              · rw [if_neg h2] at hj hy; exact hr.2 _ _ _ hj hy
          obtain ⟨arr', ha, hra⟩ := fill_rel pl ps zs' vs _ _ _ hr2 hzs (by simpa using hl) (fun j v x hj hx => hv (j + 1) v x (by simpa using hj) (by simpa using hx)) h
          refine ⟨arr', ?_, hra⟩
          have hx1 : x.cells.size = sz := by rw [xl, hsz]
          simp only [Instr.fill, hp, hx1, ne_eq, not_true_eq_false, decide_false, Bool.false_or]
          have h3 : ¬ (off + sz > arr.size) := by omega
          simp only [h3, decide_false, Bool.false_eq_true, if_false, hput]
          exact ha
        · cases hz
end
end Go.Proofs.YthpggdlhoegndaaDoor.LM
