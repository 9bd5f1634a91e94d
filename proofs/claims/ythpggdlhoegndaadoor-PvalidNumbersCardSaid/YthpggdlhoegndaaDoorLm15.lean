/-
  MAPS, and variables that closures capture.
-/
import Derived.Test.YthpggdlhoegndaaDoorLm14
set_option linter.all false
namespace Go.Proofs.YthpggdlhoegndaaDoor.LM
open Go

section
variable {P : Program} {k : Ctx}

theorem map_inv {i : Nat} {x : Value} {es : List (V × V)} (h : VR k (.map i) x) (hi : k.h.get i = some (.map es)) : x = .map (some (k.pl (.o i))) := by
  cases h with
  | pure h => cases h
  | atom h => exact h.2.2 es hi
theorem nilmap_inv {x : Value} (h : VR k .nilmap x) : x = .map none := by
  cases h with
  | pure h => cases h; rfl
  | atom h => exact h.elim
theorem keyAt_of {t : TK} {key : V} {x : Value} (h : VR k key x) (hk : keyV t key = true) : keyAt key x := by
  cases t <;> cases key <;> first
    | (cases hk; done)
    | skip
  · exact int_inv h
  · exact str_inv h
theorem keyT_desc {t : TypeId} {tk : TK} (h : keyT P t = some tk) : (∃ k, P.underlying t = some (.int k) ∧ tk = .int) ∨ (P.underlying t = some .string ∧ tk = .str) := by
  unfold keyT at h
  split at h
  · rename_i kk hu; simp only [Option.some.injEq] at h; exact .inl ⟨_, hu, h.symm⟩
  · rename_i hu; simp only [Option.some.injEq] at h; exact .inr ⟨hu, h.symm⟩
  · cases h
theorem checkKey_run {t : TypeId} {tk : TK} (h : keyT P t = some tk) (b : Bool) (n : Nat) (x : Value) (w : World) : (Instr.checkKey b (n + 1) t x).run P w = .ok () w := by
  unfold Instr.checkKey
  rcases keyT_desc h with ⟨kk, hu, _⟩ | ⟨hu, _⟩ <;> simp only [Sem.run_bind, run_underlying hu, Result.andThen] <;> cases x <;> rfl
theorem same_rel {t : TypeId} {tk : TK} {d : TypeDesc} {a b : V} {x y : Value} {r : Bool} (h : keyT P t = some tk) (hd : P.underlying t = some d) (ha : keyAt a x) (hb : keyAt b y) (hr : eqKey tk a b = some r) :
    Instr.sameNow d x y = some r ∧ (r = true → y = x) := by
  rcases keyT_desc h with ⟨kk, hu, rfl⟩ | ⟨hu, rfl⟩
  · rw [hd] at hu; simp only [Option.some.injEq] at hu; subst hu
    cases a <;> cases b <;> first
      | (simp only [eqKey] at hr; cases hr; done)
      | skip
    simp only [eqKey] at hr
    obtain ⟨h1, h2⟩ := bif_yes hr
    simp only [decide_eq_true_eq] at h1; subst h1
    simp only [Option.some.injEq] at h2
    simp only [keyAt] at ha hb; subst ha; subst hb
    refine ⟨by simp only [Instr.sameNow, if_pos]; rw [h2], fun e => ?_⟩
    rw [e] at h2
    rw [eq_of_beq h2]
  · rw [hd] at hu; simp only [Option.some.injEq] at hu; subst hu
    cases a <;> cases b <;> first
      | (simp only [eqKey] at hr; cases hr; done)
      | skip
    simp only [eqKey, Option.some.injEq] at hr
    obtain ⟨s, rfl, hs⟩ := ha
    obtain ⟨u, rfl, hu⟩ := hb
    refine ⟨by simp only [Instr.sameNow, beq_bytes hs hu, hr], fun e => ?_⟩
    rw [e] at hr
    have : s.data.toList = u.data.toList := by rw [hs, hu]; exact eq_of_beq hr
    have h2 : s.data = u.data := Array.toList_inj.1 this
    have h3 : s = u := ByteArray.ext h2
    rw [h3]
theorem find_rel {t : TypeId} {tk : TK} {d : TypeDesc} {key : V} {x : Value} (h : keyT P t = some tk) (hd : P.underlying t = some d) (hx : keyAt key x) :
    ∀ (es : List (V × V)) (ents : List MapEntry) (i : Nat) (r : Option (Nat × V)), ents.length = es.length →
    (∀ (i : Nat) (key v : V) (ent : MapEntry), es[i]? = some (key, v) → ents[i]? = some ent → keyAt key ent.key ∧ PR k.C v ent.val) → findKey tk key es i = some r →
    (r = none ∧ Instr.findNow d x ents i = some none) ∨ ∃ m v ent, r = some (i + m, v) ∧ Instr.findNow d x ents i = some (some (i + m, ent.val)) ∧ ents[m]? = some ent ∧ ent.key = x ∧ PR k.C v ent.val ∧ m < es.length
  | [], ents, i, r, hl, hv, hf => by
    simp only [findKey, Option.some.injEq] at hf; subst hf
    have : ents = [] := List.eq_nil_of_length_eq_zero (by simpa using hl)
    subst this
    exact .inl ⟨rfl, rfl⟩
  | (j, v) :: es, [], i, r, hl, hv, hf => by simp at hl
  | (j, v) :: es, ent :: ents, i, r, hl, hv, hf => by
    obtain ⟨p1, p2⟩ := hv 0 j v ent rfl rfl
    simp only [findKey] at hf
    split at hf
    · rename_i e1
      simp only [Option.some.injEq] at hf; subst hf
      obtain ⟨s1, s2⟩ := same_rel h hd hx p1 e1
      exact .inr ⟨0, v, ent, rfl, by simp [Instr.findNow, s1], rfl, s2 rfl, p2, by simp⟩
    · rename_i e1
      obtain ⟨s1, s2⟩ := same_rel h hd hx p1 e1
      rcases find_rel h hd hx es ents (i + 1) r (by simpa using hl) (fun i key v ent a b => hv (i + 1) key v ent (by simpa using a) (by simpa using b)) hf with ⟨h1, h2⟩ | ⟨m, v', ent', h1, h2, h3, h4, h5, h6⟩
      · exact .inl ⟨h1, by simp [Instr.findNow, s1, h2]⟩
      · exact .inr ⟨m + 1, v', ent', by rw [h1]; congr 2; omega, by simp [Instr.findNow, s1, h2]; omega, by simpa using h3, h4, h5, by simp; omega⟩
    · cases hf
theorem findKey_run {kt : TypeId} {d : TypeDesc} {key : Value} {l : List MapEntry} {a : Option (Nat × Value)} {w : World} (hd : P.underlying kt = some d) (h : Instr.findNow d key l 0 = some a) : (Instr.findKey kt key l).run P w = .ok a w := by
  simp [Instr.findKey, run_underlying hd, Result.andThen, h]

def lookOut (z : V) (ok : Bool) : Option (Nat × V) → V
  | some (_, v) => bif ok then .tuple [v, .bool true] else v
  | none => bif ok then .tuple [z, .bool false] else z
theorem pair_rel {C : Cell} {v : V} {x : Value} {b : Bool} (h : PR C v x) : PR C (.tuple [v, .bool b]) (.tuple #[x, .bool b]) := by
  refine .tuple rfl (fun i u y hi hy => ?_)
  cases i with
  | zero => simp at hi hy; subst hi; subst hy; exact h
  | succ i => cases i with
    | zero => simp at hi hy; subst hi; subst hy; exact .bool b
    | succ i => simp at hi
theorem look_nil {t kt e : TypeId} {z key : V} {tk : TK} {ok : Bool} {m x : Value} (hm : P.underlying t = some (.map kt e)) (hz : zeroT P e = some z) (hkt : keyT P kt = some tk) (hma : VR k .nilmap m) (w : World) :
    ∃ y, (Instr.lookup t m x ok).run P w = .ok y w ∧ VR k (bif ok then .tuple [z, .bool false] else z) y := by
  obtain ⟨ti, zv, hi, hiz, hzv⟩ := zeroT_some hz
  rw [nilmap_inv hma]
  have hd : ∃ d, P.underlying kt = some d := by rcases keyT_desc hkt with ⟨_, h, _⟩ | ⟨h, _⟩ <;> exact ⟨_, h⟩
  obtain ⟨d, hd⟩ := hd
  have hf : (Instr.findKey kt x ([] : List MapEntry)).run P w = .ok none w := findKey_run hd rfl
  have hzr : (zeroValue e).run P w = .ok zv w := by simp [zeroValue, typeInfo, hi, hiz]
  have hp := (ofVal_pr (C := k.C) hzv).1
  cases ok
  · exact ⟨zv, by simp [Instr.lookup, run_underlying hm, checkKey_run hkt, hf, hzr, Result.andThen], .pure hp⟩
  · exact ⟨.tuple #[zv, .bool false], by simp [Instr.lookup, run_underlying hm, checkKey_run hkt, hf, hzr, Result.andThen], .pure (pair_rel hp)⟩
theorem look_run {t kt e : TypeId} {z key : V} {tk : TK} {ok : Bool} {i : Nat} {es : List (V × V)} {m x : Value} {r : Option (Nat × V)} (hm : P.underlying t = some (.map kt e)) (hz : zeroT P e = some z) (hkt : keyT P kt = some tk)
    (hk : OK k) (hi : k.h.get i = some (.map es)) (hma : VR k (.map i) m) (hx : VR k key x) (hkey : keyV tk key = true) (hf : findKey tk key es 0 = some r) :
    ∃ y, (Instr.lookup t m x ok).run P k.w = .ok y k.w ∧ VR k (lookOut z ok r) y := by
  obtain ⟨ti, zv, hti, hiz, hzv⟩ := zeroT_some hz
  rw [map_inv hma hi]
  obtain ⟨⟨ents, clock, c1, c2, c3⟩, c4⟩ := hk.at_ (.o i) _ hi
  have hd : ∃ d, P.underlying kt = some d := by rcases keyT_desc hkt with ⟨_, h, _⟩ | ⟨h, _⟩ <;> exact ⟨_, h⟩
  obtain ⟨d, hd⟩ := hd
  have hzr : (zeroValue e).run P k.w = .ok zv k.w := by simp [zeroValue, typeInfo, hti, hiz]
  have hp := (ofVal_pr (C := k.C) hzv).1
  rcases find_rel (k := k) hkt hd (keyAt_of hx hkey) es ents.toList 0 r (by simpa using c2) (fun i key v ent a b => c3 i key v ent a (by simpa using b)) hf with ⟨rfl, h2⟩ | ⟨m', v', ent', rfl, h2, h3, h4, h5, h6⟩
  · have hfk := findKey_run (w := k.w) hd h2
    cases ok
    · exact ⟨zv, by simp [Instr.lookup, run_underlying hm, MapKept.run_getObj_map c1, checkKey_run hkt, hfk, hzr, Result.andThen], .pure hp⟩
    · exact ⟨.tuple #[zv, .bool false], by simp [Instr.lookup, run_underlying hm, MapKept.run_getObj_map c1, checkKey_run hkt, hfk, hzr, Result.andThen], .pure (pair_rel hp)⟩
  · have hfk := findKey_run (w := k.w) hd h2
    cases ok
    · exact ⟨ent'.val, by simp [Instr.lookup, run_underlying hm, MapKept.run_getObj_map c1, checkKey_run hkt, hfk, Result.andThen], .pure h5⟩
    · exact ⟨.tuple #[ent'.val, .bool true], by simp [Instr.lookup, run_underlying hm, MapKept.run_getObj_map c1, checkKey_run hkt, hfk, Result.andThen], .pure (pair_rel h5)⟩

/-! ### an entry is laid -/
def Ctx.setMap (k : Ctx) (i : Nat) (es : List (V × V)) (ents : Array MapEntry) (clock : Nat) : Ctx :=
  { k with h := k.h.set i (.map es), w := { k.w with heap := k.w.heap.setIfInBounds (k.pl (.o i)) (.map ents clock) } }
theorem setMap_put {i : Nat} {es es' : List (V × V)} (hk : OK k) (hi : k.h.get i = some (.map es)) (ents : Array MapEntry) (clock : Nat) :
    Put k (k.setMap i es' ents clock) (.o i) (.map es) (.map es') := by
  have hn := (hk.at_ (.o i) _ hi).2
  refine ⟨hk, hi, ob_set hi _ _ _, rfl, rfl, fun _ _ => rfl, fun b hb => ?_, ?_, fun _ _ _ => Iff.rfl, fun b o x h => ⟨h.1, ?_⟩,
    I_set hi _ _ _ (fun cs1 fz e => by cases e) (fun xs sz fz e => by cases e) (fun es e => ⟨_, rfl⟩) (fun _ _ => rfl)⟩
  · show (k.w.heap.setIfInBounds _ _)[b]? = _
    rw [Array.getElem?_setIfInBounds_ne (Ne.symm hb)]
  · show (k.w.heap.setIfInBounds _ _).size = _
    simp
  · have hb : b ≠ k.pl (.o i) := fun e => by subst e; exact hn o h.1
    have h2 := h.2
    simp only [World.cell?, Ctx.setMap] at h2 ⊢
    rw [Array.getElem?_setIfInBounds_ne (Ne.symm hb)]
    exact h2
def setOut (es : List (V × V)) (key v : V) : Option (Nat × V) → List (V × V)
  | some (j, _) => es.set j (key, v)
  | none => es ++ [(key, v)]
theorem mset_run {t kt e : TypeId} {key v : V} {tk : TK} {i : Nat} {es : List (V × V)} {m x y : Value} {r : Option (Nat × V)} (hm : P.underlying t = some (.map kt e)) (hkt : keyT P kt = some tk)
    (hk : OK k) (hi : k.h.get i = some (.map es)) (hma : VR k (.map i) m) (hx : VR k key x) (hkey : keyV tk key = true) (hy : PR k.C v y) (hf : findKey tk key es 0 = some r) :
    ∃ k', Step k k' ∧ k'.lo = k.lo ∧ k'.h = k.h.set i (.map (setOut es key v r)) ∧ (Instr.mapUpdate t m x y).run P k.w = .ok () k'.w := by
  rw [map_inv hma hi]
  obtain ⟨⟨ents, clock, c1, c2, c3⟩, c4⟩ := hk.at_ (.o i) _ hi
  have hd : ∃ d, P.underlying kt = some d := by rcases keyT_desc hkt with ⟨_, h, _⟩ | ⟨h, _⟩ <;> exact ⟨_, h⟩
  obtain ⟨d, hd⟩ := hd
  have hka := keyAt_of hx hkey
  have hplt : k.pl (.o i) < k.w.heap.size := (Array.getElem?_eq_some_iff.1 c1).1
  rcases find_rel (k := k) hkt hd hka es ents.toList 0 r (by simpa using c2) (fun i key v ent a b => c3 i key v ent a (by simpa using b)) hf with ⟨rfl, h2⟩ | ⟨m', v', ent', rfl, h2, h3, h4, h5, h6⟩
  · have hfk := findKey_run (w := k.w) hd h2
    have hput := setMap_put (es' := es ++ [(key, v)]) hk hi (ents.push { key := x, val := y, born := clock }) (clock + 1)
    refine ⟨_, ⟨hput.ext rfl rfl rfl, hput.keep ?_⟩, rfl, rfl, ?_⟩
    · refine ⟨⟨ents.push { key := x, val := y, born := clock }, clock + 1, ?_, by simp [c2], fun j kj vj ent hj he => ?_⟩, c4⟩
      · show (k.w.heap.setIfInBounds _ _)[k.pl (.o i)]? = _
        simp [hplt]
      · by_cases hlt : j < es.length
        · rw [List.getElem?_append_left hlt] at hj
          rw [Array.getElem?_push, if_neg (by omega)] at he
          obtain ⟨p1, p2⟩ := c3 j kj vj ent hj he
          exact ⟨p1, p2.mono hput.C⟩
        · have hje : j = es.length := by
            have := (List.getElem?_eq_some_iff.1 hj).1
            simp at this; omega
          subst hje
          rw [List.getElem?_append_right (Nat.le_refl _)] at hj
          simp at hj; obtain ⟨rfl, rfl⟩ := hj
          rw [Array.getElem?_push, if_pos c2.symm] at he
          simp at he; subst he
          exact ⟨hka, hy.mono hput.C⟩
    · simp [Instr.mapUpdate, run_underlying hm, MapKept.run_getObj_map c1, checkKey_run hkt, hfk, MapKept.run_setObj_map _ c1, Result.andThen, Ctx.setMap]
  · have hfk := findKey_run (w := k.w) hd h2
    rw [Nat.zero_add] at hfk
    have hj : ents[m']? = some ent' := by simpa using h3
    have hsame : Instr.sameBits 10000 x x = true := by
      cases key <;> first
        | (cases hka; done)
        | skip
      · simp only [keyAt] at hka; subst hka; simp [Instr.sameBits]
      · obtain ⟨s, rfl, hs⟩ := hka; simp [Instr.sameBits, beq_bytes hs hs]
    have hst : (Instr.keyThatStays x x).run P k.w = .ok x k.w := by simp [Instr.keyThatStays, hsame]
    have hput := setMap_put (es' := es.set m' (key, v)) hk hi (ents.modify m' fun e => { e with key := x, val := y }) clock
    refine ⟨_, ⟨hput.ext rfl rfl rfl, hput.keep ?_⟩, rfl, by simp only [Nat.zero_add, setOut]; rfl, ?_⟩
    · refine ⟨⟨ents.modify m' fun e => { e with key := x, val := y }, clock, ?_, by simp [c2], fun j kj vj ent hjj he => ?_⟩, c4⟩
      · show (k.w.heap.setIfInBounds _ _)[k.pl (.o i)]? = _
        simp [hplt]
      · rw [List.getElem?_set] at hjj
        rw [Array.getElem?_modify] at he
        by_cases e : m' = j
        · subst e
          rw [if_pos rfl, if_pos h6] at hjj
          rw [if_pos rfl, hj] at he
          simp at hjj he
          obtain ⟨rfl, rfl⟩ := hjj
          subst he
          exact ⟨hka, hy.mono hput.C⟩
        · rw [if_neg e] at hjj
          rw [if_neg e] at he
          obtain ⟨p1, p2⟩ := c3 j kj vj ent hjj he
          exact ⟨p1, p2.mono hput.C⟩
    · simp [Instr.mapUpdate, run_underlying hm, MapKept.run_getObj_map c1, checkKey_run hkt, hfk, hj, h4, hst, MapKept.run_setObj_map _ c1, Result.andThen, Ctx.setMap]

theorem mkmap_run {t : TypeId} (hk : OK k) : ∃ k' x, Step k k' ∧ k'.lo = k.lo ∧ k'.h = k.h.new (.map []) ∧ (Instr.makeMap t none).run P k.w = .ok x k'.w ∧ VR k' (.map k.h.c) x := by
  have hpl : (k.newOb (.map []) (.map (some k.w.heap.size)) (.map #[] 0)).pl (.o k.h.c) = k.w.heap.size := upd_same _ _ _
  refine ⟨k.newOb (.map []) (.map (some k.w.heap.size)) (.map #[] 0), .map (some k.w.heap.size), ⟨ext_newOb, ok_newOb hk ⟨⟨#[], 0, ?_, rfl, fun i key v ent hi => by simp at hi⟩, fun o hs => ?_⟩⟩, rfl, rfl, ?_, .atom ⟨⟨_, rfl⟩, Nat.lt_succ_self _, fun es hg => ?_⟩⟩
  · rw [hpl]; exact heap_alloc_new k.w _
  · rw [hpl] at hs; have := hk.lt _ _ hs; omega
  · simp [Instr.makeMap, Result.andThen, Ctx.newOb]
  · rw [hpl]

/-! ### captured variables -/
theorem stillCell_keep {h h' : HS} {v v' : V} (e : stillCell h v = some (v', h')) {i : Nat} {cs : List V} {fz : Bool} (hi : h.get i = some (.cells cs fz)) : h'.get i = some (.cells cs fz) := by
  have base : ∀ {v : V}, (bif v.pureIf then some (v, h) else none) = some (v', h') → h'.get i = some (.cells cs fz) := by
    intro v e
    obtain ⟨hp, e⟩ := bif_yes e
    simp only [Option.some.injEq, Prod.mk.injEq] at e; obtain ⟨_, rfl⟩ := e; exact hi
  cases v <;> simp only [stillCell] at e <;> first
    | exact base e
    | skip
  · rename_i j n
    split at e
    · rename_i xs sz fz' hj
      obtain ⟨_, e⟩ := bif_yes e
      simp only [Option.some.injEq, Prod.mk.injEq] at e; obtain ⟨_, rfl⟩ := e
      have hne : j ≠ i := fun e => by subst e; rw [hi] at hj; cases hj
      rw [HS.get_set_other hne]; exact hi
    · cases e
  · simp only [Option.some.injEq, Prod.mk.injEq] at e; obtain ⟨_, rfl⟩ := e; exact hi
theorem stillCells_keep : ∀ {vs vs' : List V} {h h' : HS}, stillCells h vs = some (vs', h') → ∀ {i : Nat} {cs : List V} {fz : Bool}, h.get i = some (.cells cs fz) → h'.get i = some (.cells cs fz)
  | [], vs', h, h', e, i, cs, fz, hi => by simp only [stillCells, Option.some.injEq, Prod.mk.injEq] at e; obtain ⟨_, rfl⟩ := e; exact hi
  | v :: vs, vs', h, h', e, i, cs, fz, hi => by
    simp only [stillCells] at e
    split at e
    · rename_i v1 h1 e1
      split at e
      · rename_i vs1 h2 e2
        simp only [Option.some.injEq, Prod.mk.injEq] at e; obtain ⟨_, rfl⟩ := e
        exact stillCells_keep e2 (stillCell_keep e1 hi)
      · cases e
    · cases e
theorem freeze_ref {v v' : V} {h' : HS} {x : Value} (hk : OK k) (h : freezeRef k.h v = some (v', h')) (hx : VR k v x) :
    ∃ k', Step k k' ∧ k'.lo = k.lo ∧ k'.h = h' ∧ k'.w = k.w ∧ PR k'.C v' x := by
  cases v <;> first
    | (simp only [freezeRef] at h; cases h; done)
    | skip
  · rename_i i off
    simp only [freezeRef] at h
    split at h
    · rename_i cs fz hi
      split at h
      · rename_i cs' h1 e1
        simp only [Option.some.injEq, Prod.mk.injEq] at h
        obtain ⟨rfl, rfl⟩ := h
        have hx' : k.I (.ref i off) x := by
          cases hx with
          | pure h => cases h
          | atom h => exact h
        have haddr := hx'.2.2 cs fz hi
        obtain ⟨⟨arr, ty, c1, c2, c3⟩, hn⟩ := hk.at_ (.o i) _ hi
        obtain ⟨k1, s1, l1, rfl, w1, n1, p1⟩ := still_cells (xs := arr.toList) hk e1 (by rw [Array.length_toList]; exact c2) (fun j v y hj hy => (c3 j v y hj (by simpa using hy)).1)
        have hi1 := stillCells_keep e1 hi
        have hp1 : k1.pl (.o i) = k.pl (.o i) := by
          have h1 : VR k1 (.ref i off) x := hx.ext s1.ext
          have h2 : k1.I (.ref i off) x := by
            cases h1 with
            | pure h => cases h
            | atom h => exact h
          have := h2.2.2 cs fz hi1
          rw [haddr] at this
          simp only [Value.pointer.injEq, Option.some.injEq, Addr.mk.injEq, and_true] at this
          exact this.symm
        have hput := put_freeze (n := cs'.length) (p := .cells cs' true) s1.ok hi1 (fun _ _ _ => ⟨_, _, rfl⟩) (fun _ _ _ e => by cases e) (fun _ e => by cases e)
        have hget : ∀ (j : Nat) (v : V), cs'[j]? = some v → arr[j]? = some (arr.getD j .nilIface) ∧ PR k1.C v (arr.getD j .nilIface) ∧ (arr.getD j .nilIface).oneCell' = true := by
          intro j v hj
          have hlt : j < arr.size := by
            have := (List.getElem?_eq_some_iff.1 hj).1
            omega
          have e2 : arr[j]? = some arr[j] := by simp [hlt]
          rw [arr_getD e2]
          have hlt2 : j < cs.length := by omega
          exact ⟨e2, p1 j v _ hj (by simpa using e2), (c3 j cs[j] _ (List.getElem?_eq_getElem hlt2) e2).2⟩
        refine ⟨_, s1.trans ⟨hput.ext rfl rfl rfl, hput.keep ?_⟩, l1, rfl, w1, ?_⟩
        · refine ⟨⟨arr, ty, ?_, by rw [c2, n1], fun j v y hj hy => ?_⟩, fun h => by cases h⟩
          · show k1.w.heap[k1.pl (.o i)]? = _
            rw [w1, hp1]; exact c1
          · obtain ⟨a1, a2, a3⟩ := hget j v hj
            rw [a1] at hy; simp only [Option.some.injEq] at hy; subst hy
            exact ⟨.pure (a2.mono C_freeze), a3⟩
        · rw [haddr]
          have e0 : off = 0 + off := (Nat.zero_add _).symm
          have key : PR (k1.freeze i (.cells cs' true) cs'.length).C (.cptr cs' off) (.pointer (some ⟨k.pl (.o i), 0 + off, none⟩)) := by
            refine .cptr (vals := fun j => arr.getD j .nilIface) (fun j v hj => ?_) (fun j v hj => ((hget j v hj).2.1).mono C_freeze)
            refine ⟨.inr ⟨hp1.symm, by rw [Nat.zero_add]; exact (List.getElem?_eq_some_iff.1 hj).1⟩, ?_⟩
            show k1.w.cell? _ = _
            rw [w1, cell_of_row _ _ _ _ _ _ c1, Nat.zero_add]; exact (hget j v hj).1
          rw [← e0] at key
          exact key
      · cases h
    · cases h
  · simp only [freezeRef, Option.some.injEq, Prod.mk.injEq] at h
    obtain ⟨rfl, rfl⟩ := h
    exact ⟨k, .refl hk, rfl, rfl, rfl, pr_cell hx rfl⟩
theorem freeze_all : ∀ {vs vs' : List V} {h' : HS} {k : Ctx} {xs : List Value}, OK k → freezeAll k.h vs = some (vs', h') → xs.length = vs.length → (∀ (i : Nat) (v : V) (x : Value), vs[i]? = some v → xs[i]? = some x → VR k v x) →
    ∃ k', Step k k' ∧ k'.lo = k.lo ∧ k'.h = h' ∧ k'.w = k.w ∧ vs'.length = vs.length ∧ ∀ (i : Nat) (v : V) (x : Value), vs'[i]? = some v → xs[i]? = some x → PR k'.C v x
  | [], vs', h', k, xs, hk, h, hl, hv => by
    simp only [freezeAll, Option.some.injEq, Prod.mk.injEq] at h
    obtain ⟨rfl, rfl⟩ := h
    exact ⟨k, .refl hk, rfl, rfl, rfl, rfl, fun i v x hi => by simp at hi⟩
  | v :: vs, vs', h', k, xs, hk, h, hl, hv => by
    cases xs with
    | nil => simp at hl
    | cons x xs =>
      simp only [freezeAll] at h
      split at h
      · rename_i v1 h1 e1
        split at h
        · rename_i vs1 h2 e2
          simp only [Option.some.injEq, Prod.mk.injEq] at h
          obtain ⟨rfl, rfl⟩ := h
          obtain ⟨k1, s1, l1, rfl, w1, p1⟩ := freeze_ref hk e1 (hv 0 v x rfl rfl)
          obtain ⟨k2, s2, l2, g2, w2, n2, p2⟩ := freeze_all s1.ok e2 (by simpa using hl) (fun i v x hi hx => (hv (i + 1) v x (by simpa using hi) (by simpa using hx)).ext s1.ext)
          refine ⟨k2, s1.trans s2, l2.trans l1, g2, w2.trans w1, by simp [n2], fun i u y hi hy => ?_⟩
          cases i with
          | zero => simp at hi hy; subst hi; subst hy; exact p1.mono s2.ext.C
          | succ i => exact p2 i u y (by simpa using hi) (by simpa using hy)
        · cases h
      · cases h
end
end Go.Proofs.YthpggdlhoegndaaDoor.LM
