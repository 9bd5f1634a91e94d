/-
  FROM A ROW's LISTED TABLES to what the evaluator is told of them; from a contract to the law's call.
-/
import Derived.Test.YthpggdlhoegndaaDoorLm33
import Derived.Test.YthpggdlhoegndaaDoorLm30
import Derived.Lib.LaidU8
set_option linter.all false
namespace Go.Proofs.YthpggdlhoegndaaDoor.LM
open Go Go.RowKit Go.Lib

section
variable {P : Program} {W : World}
theorem tab_cells {n : String} {g N : Nat} {t e : TypeId} {k : IntKind} {zs : List Int} (hv : VarReads P W n (tabData k zs)) (hg : P.globalNamed n = some g) (ht : (P.globals[g]?).map (·.type) = some t)
    (hu : P.underlying t = some (.array N e)) (he : P.underlying e = some (.int k)) (hce : P.cellsOf e = 1) (hct : P.cellsOf t = N) :
    ∀ j z, zs[j]? = some z → W.cell? ⟨g, j, none⟩ = some (.int k z) := by
  obtain ⟨g', t', cs, fuel, p, h1, h2, h3, h4⟩ := hv
  obtain rfl := Option.some.inj (hg.symm.trans h1)
  obtain rfl := Option.some.inj (ht.symm.trans h2)
  have := cells_of_tab hu he hce hct h4
  intro j z hz
  rw [World.var?_cell hg h3 j]
  have : cs.toList[j]? = some (.int k z) := by rw [this]; simp [hz]
  simpa using this
theorem tab2_cells {n : String} {g N : Nat} {t e : TypeId} {k : IntKind} {fs : Array Field} {zs : List (Int × Int)} (hv : VarReads P W n (.agg (zs.map fun z => .agg ([z.1, z.2].map fun z => .lit (.int k z))))) (hg : P.globalNamed n = some g)
    (ht : (P.globals[g]?).map (·.type) = some t) (hu : P.underlying t = some (.array N e)) (hs : P.underlying e = some (.struct fs)) (hf : ∀ (i : Nat) (f : Field), fs[i]? = some f → P.underlying f.type = some (.int k) ∧ f.offset = i ∧ P.cellsOf f.type = 1)
    (hfs : fs.size = 2) (hce : P.cellsOf e = 2) (hz : zs.length = N) :
    ∀ j z, (zs.flatMap fun z => [z.1, z.2])[j]? = some z → W.cell? ⟨g, j, none⟩ = some (.int k z) := by
  obtain ⟨g', t', cs, fuel, p, h1, h2, h3, h4⟩ := hv
  obtain rfl := Option.some.inj (hg.symm.trans h1)
  obtain rfl := Option.some.inj (ht.symm.trans h2)
  have key : ∀ i (hi : i < zs.length), cs[i * 2]? = some (.int k zs[i].1) ∧ cs[i * 2 + 1]? = some (.int k zs[i].2) := by
    intro i hi
    obtain ⟨fuel', d, q, e1, e2⟩ := array_elem hu h4 i (by omega)
    rw [List.getElem?_map, List.getElem?_eq_getElem hi] at e1
    simp only [Option.map_some, Option.some.injEq] at e1
    subst e1
    have := ints_of_struct (zs := [zs[i].1, zs[i].2]) hs hf (by rw [hce, hfs]) e2
    rw [hce] at this
    have a0 : ((cs.toList.drop (i * 2)).take 2)[0]? = some (.int k zs[i].1) := by rw [this]; rfl
    have a1 : ((cs.toList.drop (i * 2)).take 2)[1]? = some (.int k zs[i].2) := by rw [this]; rfl
    simp only [List.getElem?_take, List.getElem?_drop] at a0 a1
    simp at a0 a1
    exact ⟨a0, a1⟩
  have flat : ∀ (l : List (Int × Int)) (j : Nat) (z : Int), (l.flatMap fun z => [z.1, z.2])[j]? = some z → ∃ i, ∃ h : i < l.length, (j = i * 2 ∧ z = l[i].1) ∨ (j = i * 2 + 1 ∧ z = l[i].2) := by
    intro l
    induction l with
    | nil => intro j z h; simp at h
    | cons a r ih =>
      intro j z h
      simp only [List.flatMap_cons, List.cons_append, List.nil_append] at h
      match j with
      | 0 => simp at h; exact ⟨0, by simp, .inl ⟨rfl, h.symm⟩⟩
      | 1 => simp at h; exact ⟨0, by simp, .inr ⟨rfl, h.symm⟩⟩
      | j + 2 =>
        simp only [List.getElem?_cons_succ] at h
        obtain ⟨i, hi, hh⟩ := ih j z h
        refine ⟨i + 1, by simp; exact hi, ?_⟩
        rcases hh with ⟨rfl, rfl⟩ | ⟨rfl, rfl⟩
        · exact .inl ⟨by omega, by simp⟩
        · exact .inr ⟨by omega, by simp⟩
  intro j z hz'
  rw [World.var?_cell hg h3 j]
  obtain ⟨i, hi, hh⟩ := flat zs j z hz'
  obtain ⟨k0, k1⟩ := key i hi
  rcases hh with ⟨rfl, rfl⟩ | ⟨rfl, rfl⟩
  · exact k0
  · exact k1
theorem gr_ints {g : Nat} {k : IntKind} {zs : List Int} {cs : List V} (hc : cs = zs.map (V.int k)) (h : ∀ j z, zs[j]? = some z → W.cell? ⟨g, j, none⟩ = some (.int k z)) :
    ∃ f : Nat → Value, ∀ (j : Nat) (v : V), cs[j]? = some v → W.cell? ⟨g, j, none⟩ = some (f j) ∧ PR (start W).C v (f j) := by
  subst hc
  refine ⟨fun j => .int k (zs.getD j 0), fun j v hj => ?_⟩
  rw [List.getElem?_map] at hj
  cases hz : zs[j]? with
  | none => rw [hz] at hj; cases hj
  | some z =>
    rw [hz] at hj
    simp only [Option.map_some, Option.some.injEq] at hj
    subst hj
    have : zs.getD j 0 = z := by simp [List.getD, hz]
    show W.cell? ⟨g, j, none⟩ = some (Value.int k (zs.getD j 0)) ∧ PR (start W).C (V.int k z) (Value.int k (zs.getD j 0))
    rw [this]
    exact ⟨h j z hz, .int k z⟩
end
/-- the table's entries, one by one -/
def AllOK (P : Program) (G : Nat → Option (List V)) : List (Nat × LDef) → Prop
  | [] => True
  | (f, d) :: r => FnOK P G f d ∧ AllOK P G r
theorem pcall_true {cf : Cfg} {f : Nat} {vs : List V} (h : PCall cf f vs = some (.ret (.bool true))) : ∃ n, okTrue (evalCall cf n f vs HS.none) = true := by
  unfold PCall at h
  split at h
  · rename_i r h' hc
    simp only [Option.some.injEq] at h
    subst h
    obtain ⟨n, hn⟩ := Call_spec hc
    exact ⟨n, by rw [hn]; rfl⟩
  · cases h
/-- what a contract says true to, the machine says true to -/
theorem law_calls {P : Program} {G : Nat → Option (List V)} {cf : Cfg} {W : World} {f : Nat} {vs : List V} {args : Array Value} {fn : Func} (ht : Tables P G cf) (hG : GR G (start W)) (ha : Args (start W) vs args)
    (hf : P.funcs[f]? = some fn) (hn : (fn.name == "runtime.NumGoroutine") = false) (hb : fn.body.isSome = true) (h : PCall cf f vs = some (.ret (.bool true))) :
    Calls P f args W fun e W' => e = .returned (.bool true) ∧ Below W.heap.size W W' := by
  obtain ⟨n, he⟩ := pcall_true h
  obtain ⟨c, hb⟩ := Option.isSome_iff_exists.1 hb
  exact calls_true ht hG ha hf hn hb he
end Go.Proofs.YthpggdlhoegndaaDoor.LM
