/-
  ARITHMETIC, COMPARISONS, CONVERSIONS, what is built and cut: the model's operations held against the logical ones.
-/
import Derived.Test.YthpggdlhoegndaaDoorLm7
import Derived.ChangeKeysEq
set_option linter.all false
namespace Go.Proofs.YthpggdlhoegndaaDoor.LM
open Go

section
variable {P : Program} {k : Ctx}

/-! ### == on flat types -/
def RG (R : V → Value → Prop) (cs : List V) (arr : Array Value) : Prop := arr.size = cs.length ∧ ∀ (i : Nat) (v : V) (y : Value), cs[i]? = some v → arr[i]? = some y → R v y
abbrev RA (k : Ctx) (cs : List V) (arr : Array Value) : Prop := RG (VR k) cs arr
theorem eqCells_append : ∀ (ks ls : List TK) (c d : List V) (r : Bool), eqCells (ks ++ ls) c d = some r →
    ∃ r1 r2, eqCells ks (c.take ks.length) (d.take ks.length) = some r1 ∧ eqCells ls (c.drop ks.length) (d.drop ks.length) = some r2 ∧ r = (r1 && r2)
  | [], ls, c, d, r, h => ⟨true, r, by simp [eqCells], by simpa using h, by simp⟩
  | t :: ks, ls, [], d, r, h => by simp [eqCells] at h
  | t :: ks, ls, a :: c, [], r, h => by simp [eqCells] at h
  | t :: ks, ls, a :: c, b :: d, r, h => by
    simp only [List.cons_append, eqCells] at h
    split at h
    · rename_i x y hx hy
      simp only [Option.some.injEq] at h
      obtain ⟨r1, r2, h1, h2, h3⟩ := eqCells_append ks ls c d y hy
      refine ⟨x && r1, r2, ?_, by simpa using h2, by rw [← h, h3, Bool.and_assoc]⟩
      simp only [List.length_cons, List.take_succ_cons, eqCells, hx, h1]
    · cases h
theorem eqCells_lengths : ∀ (ks : List TK) (c d : List V) (r : Bool), eqCells ks c d = some r → c.length = ks.length ∧ d.length = ks.length
  | [], [], [], _, _ => ⟨rfl, rfl⟩
  | [], [], _ :: _, _, h => by simp [eqCells] at h
  | [], _ :: _, _, _, h => by simp [eqCells] at h
  | _ :: _, [], _, _, h => by simp [eqCells] at h
  | _ :: _, _ :: _, [], _, h => by simp [eqCells] at h
  | t :: ks, a :: c, b :: d, r, h => by
    simp only [eqCells] at h
    split at h
    · rename_i x y hx hy
      obtain ⟨h1, h2⟩ := eqCells_lengths ks c d y hy
      simp [h1, h2]
    · cases h
theorem beq_bytes {a b : ByteArray} {s t : List UInt8} (ha : a.data.toList = s) (hb : b.data.toList = t) : (a == b) = (s == t) := by
  rw [beq_toListBytes, ByteArray.toList_eq, ByteArray.toList_eq, ha, hb]
theorem eqCell_run {t : TypeId} {ks : List TK} {n : Nat} (hk : kindsT P (n + 1) t = some ks) (hag : aggT P t = some false) {u v : V} {x y : Value} {r : Bool} (hx : VR k u x) (hy : VR k v y)
    (h : eqCells ks [u] [v] = some r) (d : Nat) (w : World) : (Op.equalIn (d + 1) t x y).run P w = .ok r w := by
  simp only [kindsT] at hk
  have one : ∀ {t : TK}, eqCells [t] [u] [v] = some r → eqCell t u v = some r := by
    intro t h
    simp only [eqCells] at h
    split at h
    · rename_i a b ha hb; simp only [Option.some.injEq] at h hb; subst hb; rw [ha, ← h]; simp
    · cases h
  unfold aggT at hag
  cases hu : P.underlying t with
  | none => rw [hu] at hk; cases hk
  | some td =>
    rw [hu] at hk hag
    cases td <;> first
      | cases hk; done
      | cases hag; done
      | skip
    · simp only [Option.some.injEq] at hk; subst hk
      have h := one h
      cases u <;> cases v <;> simp only [eqCell] at h <;> first | cases h; done | skip
      simp only [Option.some.injEq] at h
      rw [bool_inv hx, bool_inv hy, run_equalIn_bool' _ _ _ _ _ hu, h]
    · simp only [Option.some.injEq] at hk; subst hk
      have h := one h
      cases u <;> cases v <;> simp only [eqCell] at h <;> first | cases h; done | skip
      rename_i k1 a k2 b hold
      by_cases hkk : k1 = k2
      · subst hkk
        simp at h
        rw [int_inv hx, int_inv hy, run_equalIn_int _ _ _ _ _ _ _ hu, h]
      · simp [hkk] at h
    · simp only [Option.some.injEq] at hk; subst hk
      have h := one h
      cases u <;> cases v <;> simp only [eqCell] at h <;> first | cases h; done | skip
      simp only [Option.some.injEq] at h
      obtain ⟨a, rfl, ha⟩ := str_inv hx
      obtain ⟨b, rfl, hb⟩ := str_inv hy
      rw [run_equalIn_string _ _ _ _ _ hu, ByteArray.toList_eq, ByteArray.toList_eq, ha, hb, h]
def EqAt (P : Program) (k : Ctx) (n : Nat) : Prop := ∀ (t : TypeId) (ks : List TK) (cs ds : List V) (xs ys : Array Value) (r : Bool), kindsT P n t = some ks → aggT P t = some true → RA k cs xs → RA k ds ys →
  eqCells ks cs ds = some r → ∀ d, n ≤ d → ∀ w, (Op.equalIn d t (.agg xs) (.agg ys)).run P w = .ok r w
theorem RA.extract {cs : List V} {xs : Array Value} (h : RA k cs xs) (off sz : Nat) : RA k ((cs.drop off).take sz) (xs.extract off (off + sz)) := by
  refine ⟨by simp [h.1]; omega, fun i v y hi hy => ?_⟩
  have hi' : i < sz := by
    have := (List.getElem?_eq_some_iff.1 hi).1
    rw [List.length_take] at this; omega
  rw [List.getElem?_take, if_pos hi', List.getElem?_drop] at hi
  rw [Array.getElem?_extract] at hy
  split at hy
  · exact h.2 _ _ _ hi hy
  · cases hy
theorem eq_part {n : Nat} (ih : EqAt P k n) {e : TypeId} {ks : List TK} {sz off : Nat} {ag : Bool} {cs ds : List V} {xs ys : Array Value} {r : Bool} (hk : kindsT P n e = some ks) (hag : aggT P e = some ag)
    (hsz : sizeT P e = some sz) (hl : ks.length = sz) (hx : RA k cs xs) (hy : RA k ds ys) (h : eqCells ks ((cs.drop off).take sz) ((ds.drop off).take sz) = some r) (d : Nat) (hd : n ≤ d) (w : World) :
    ∃ a b, (Go.part e xs off).run P w = .ok a w ∧ (Go.part e ys off).run P w = .ok b w ∧ (Op.equalIn d e a b).run P w = .ok r w := by
  cases ag with
  | true =>
    refine ⟨.agg (xs.extract off (off + sz)), .agg (ys.extract off (off + sz)), by simp [Go.part, aggT_some hag, sizeT_some hsz], by simp [Go.part, aggT_some hag, sizeT_some hsz], ?_⟩
    exact ih e ks _ _ _ _ r hk hag (hx.extract off sz) (hy.extract off sz) h d hd w
  | false =>
    cases n with
    | zero => cases hk
    | succ m =>
    obtain ⟨d, rfl⟩ : ∃ d', d = d' + 1 := ⟨d - 1, by omega⟩
    have hone : sz = 1 := by
      rw [← hl]
      simp only [kindsT] at hk
      unfold aggT at hag
      cases hu : P.underlying e with
      | none => rw [hu] at hk; cases hk
      | some td =>
        rw [hu] at hk hag
        cases td <;> first
          | cases hk; done
          | cases hag; done
          | (simp only [Option.some.injEq] at hk; subst hk; rfl)
    subst hone
    obtain ⟨l1, l2⟩ := eqCells_lengths _ _ _ _ h
    rw [hl] at l1 l2
    simp only [List.length_take, List.length_drop] at l1 l2
    have hc : off < cs.length := by omega
    have hdl : off < ds.length := by omega
    have e1 : (cs.drop off).take 1 = [cs[off]] := by rw [List.drop_eq_getElem_cons hc]; rfl
    have e2 : (ds.drop off).take 1 = [ds[off]] := by rw [List.drop_eq_getElem_cons hdl]; rfl
    have hxo : off < xs.size := by rw [hx.1]; exact hc
    have hyo : off < ys.size := by rw [hy.1]; exact hdl
    rw [e1, e2] at h
    refine ⟨xs[off], ys[off], by simp [Go.part, aggT_some hag, hxo], by simp [Go.part, aggT_some hag, hyo], ?_⟩
    exact eqCell_run hk hag (hx.2 off _ _ (List.getElem?_eq_getElem hc) (by simp [hxo])) (hy.2 off _ _ (List.getElem?_eq_getElem hdl) (by simp [hyo])) h d w
theorem eq_fields {n : Nat} (ih : EqAt P k n) {cs ds : List V} {xs ys : Array Value} (hx : RA k cs xs) (hy : RA k ds ys) (d : Nat) (hd : n ≤ d) (w : World) :
    ∀ (fs : List Field) (acc : Nat) (ks : List TK) (r : Bool), fieldsK P (kindsT P n) acc fs = some ks → eqCells ks (cs.drop acc) (ds.drop acc) = some r → (Op.eqFields d xs ys fs).run P w = .ok r w
  | [], acc, ks, r, hk, h => by
    simp only [fieldsK, Option.some.injEq] at hk; subst hk
    have h1 := eqCells_lengths _ _ _ _ h
    have e1 : cs.drop acc = [] := List.eq_nil_of_length_eq_zero h1.1
    have e2 : ds.drop acc = [] := List.eq_nil_of_length_eq_zero h1.2
    rw [e1, e2] at h
    simp only [eqCells, Option.some.injEq] at h
    subst h; simp [Op.eqFields]
  | f :: fs, acc, ks, r, hk, h => by
    simp only [fieldsK] at hk
    cases hn : (f.name == "_" || !Nat.beq f.offset acc) with
    | true => rw [hn] at hk; cases hk
    | false =>
      rw [hn] at hk
      simp only [cond_false] at hk
      simp only [Bool.or_eq_false_iff, Bool.not_eq_false'] at hn
      obtain ⟨hname, hoff⟩ := hn
      have hoff := beq_nat hoff
      split at hk
      · rename_i ks1 sz ag hk1 hsz hag
        by_cases hl : Nat.beq ks1.length sz = true
        · rw [hl] at hk; simp only [cond_true] at hk
          have hl := beq_nat hl
          split at hk
          · rename_i ks2 hk2
            simp only [Option.some.injEq] at hk; subst hk
            obtain ⟨r1, r2, h1, h2, h3⟩ := eqCells_append _ _ _ _ _ h
            rw [hl] at h1 h2
            rw [List.drop_drop, List.drop_drop] at h2
            obtain ⟨a, b, pa, pb, pe⟩ := eq_part ih hk1 hag hsz hl hx hy h1 d hd w
            have hrest := eq_fields ih hx hy d hd w fs (acc + sz) ks2 r2 hk2 h2
            have hne : f.name ≠ "_" := by simpa using hname
            rw [hoff.symm] at pa pb
            simp only [Op.eqFields, hne, ne_eq, not_false_eq_true, if_true, Sem.run_bind, pa, pb, pe, Result.andThen_ok]
            cases r1
            · simp [h3]
            · simp only [Bool.not_true, Bool.false_eq_true, if_false]
              rw [hrest, h3]; simp
          · cases hk
        · simp only [Bool.not_eq_true] at hl; rw [hl] at hk; cases hk
      · cases hk
theorem eq_items {n : Nat} (ih : EqAt P k n) {e : TypeId} {ks : List TK} {sz : Nat} {ag : Bool} (hk : kindsT P n e = some ks) (hag : aggT P e = some ag) (hsz : sizeT P e = some sz) (hl : ks.length = sz)
    {cs ds : List V} {xs ys : Array Value} (hx : RA k cs xs) (hy : RA k ds ys) (d : Nat) (hd : n ≤ d) (w : World) :
    ∀ (m i : Nat) (r : Bool), eqCells (List.replicate m ks).flatten (cs.drop (i * sz)) (ds.drop (i * sz)) = some r → (Op.eqItems d e sz xs ys (List.range' i m)).run P w = .ok r w
  | 0, i, r, h => by
    simp only [List.replicate_zero, List.flatten_nil] at h
    have h1 := eqCells_lengths _ _ _ _ h
    have e1 : cs.drop (i * sz) = [] := List.eq_nil_of_length_eq_zero h1.1
    have e2 : ds.drop (i * sz) = [] := List.eq_nil_of_length_eq_zero h1.2
    rw [e1, e2] at h
    simp only [eqCells, Option.some.injEq] at h
    subst h; simp [Op.eqItems]
  | m + 1, i, r, h => by
    simp only [List.replicate_succ, List.flatten_cons] at h
    obtain ⟨r1, r2, h1, h2, h3⟩ := eqCells_append _ _ _ _ _ h
    rw [hl] at h1 h2
    rw [List.drop_drop, List.drop_drop] at h2
    have : i * sz + sz = (i + 1) * sz := by rw [Nat.succ_mul]
    rw [this] at h2
    obtain ⟨a, b, pa, pb, pe⟩ := eq_part ih hk hag hsz hl hx hy h1 d hd w
    have hrest := eq_items ih hk hag hsz hl hx hy d hd w m (i + 1) r2 h2
    simp only [List.range'_succ, Op.eqItems, Sem.run_bind, pa, pb, pe, Result.andThen_ok]
    cases r1
    · simp [h3]
    · simp only [Bool.not_true, Bool.false_eq_true, if_false]
      rw [hrest, h3]; simp
theorem eq_at : ∀ n, EqAt P k n
  | 0 => fun t ks cs ds xs ys r hk => by cases hk
  | n + 1 => by
    intro t ks cs ds xs ys r hk hag hx hy h d hd w
    obtain ⟨d, rfl⟩ : ∃ d', d = d' + 1 := ⟨d - 1, by omega⟩
    simp only [kindsT] at hk
    unfold aggT at hag
    cases hu : P.underlying t with
    | none => rw [hu] at hk; cases hk
    | some td =>
      rw [hu] at hk hag
      cases td <;> first
        | cases hk; done
        | cases hag; done
        | skip
      · rename_i len e
        simp only at hk
        split at hk
        · rename_i ks1 sz ag hk1 hsz hag1
          by_cases hl : Nat.beq ks1.length sz = true
          · rw [hl] at hk; simp only [cond_true, Option.some.injEq] at hk; subst hk
            have hl := beq_nat hl
            obtain ⟨i, hi, hisz⟩ := info_of_sizeT hsz
            have hcell : P.cellsOf e = sz := by simp [Program.cellsOf, hi, hisz]
            rw [run_equalIn_array w d xs ys hu hi, hcell, List.range_eq_range']
            exact eq_items (eq_at n) hk1 hag1 hsz hl hx hy d (by omega) w len 0 r (by simpa using h)
          · simp only [Bool.not_eq_true] at hl; rw [hl] at hk; cases hk
        · cases hk
      · rename_i fs
        cases hst : P.stoodInHeld t with
        | true => rw [hst] at hk; cases hk
        | false =>
          rw [hst] at hk; simp only [cond_false] at hk
          have hf : P.fieldsOf t = fs := by simp [Program.fieldsOf, hu]
          rw [run_equalIn_struct w d t xs ys (by rw [hf]; exact hu) hst, hf]
          exact eq_fields (eq_at n) hx hy d (by omega) w fs.toList 0 ks r hk (by simpa using h)
end
end Go.Proofs.YthpggdlhoegndaaDoor.LM
