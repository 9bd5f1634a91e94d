/-
  ONE OPERATION, on: those that read memory, write it, or take more.
-/
import Derived.Test.YthpggdlhoegndaaDoorLm18
import Derived.Laws.IdiomStrings
import Derived.Laws.BytesString
set_option linter.all false
namespace Go.Proofs.YthpggdlhoegndaaDoor.LM
open Go

section
variable {P : Program} {G : Nat → Option (List V)} {k : Ctx} {cf : Cfg} {ev : Ev} {s s' : St} {out : Out}

theorem part_opt {α β : Type} {o : Option α} {f : α → β} {b : β} (h : (match o with | some v => some (f v) | none => none) = some b) : ∃ v, o = some v ∧ b = f v := by
  cases o with
  | none => cases h
  | some v => simp only [Option.some.injEq] at h; exact ⟨v, rfl, h.symm⟩

/-! ### loads -/
theorem load_at {t : TypeId} {ag : Bool} {sz : Nat} {v : V} {a : Value} (hag : aggT P t = some ag) (hsz : sizeT P t = some sz) (hs : At k s) (hv : VR k v a) (he : exec1 (loadV ag sz v) s = some (out, s')) :
    s' = s ∧ ∃ u x, out = .val u ∧ (Instr.loadAt t a).run P k.w = .ok x k.w ∧ VR k u x := by
  cases v <;> first
    | exact dead he rfl
    | skip
  · rename_i t' g off
    obtain ⟨⟨g', cs⟩, h1, h2, rfl⟩ := exec_locR he
    have h2' : (bif Nat.beq g g' then (match part ag off sz cs with | some v => some (Out.val v) | none => none) else none) = some out := h2
    obtain ⟨hg, h3⟩ := bif_yes h2'
    have hg := beq_nat hg
    subst hg
    have ⟨u, hp, h9⟩ : ∃ u, part ag off sz cs = some u ∧ out = .val u := by
      cases hp : part ag off sz cs with
      | none => simp only [hp] at h3; cases h3
      | some u => simp only [hp, Option.some.injEq] at h3; exact ⟨u, rfl, h3.symm⟩
    subst h9
    rw [← hs.lo] at h1
    have hI : k.I (.loc t' g off) a := by
      cases hv with
      | pure h => cases h
      | atom h => exact h
    obtain ⟨_, g', cs', e1, e2, e3, e4⟩ := hI
    rw [h1] at e1; simp only [Option.some.injEq, Prod.mk.injEq] at e1; obtain ⟨rfl, rfl⟩ := e1
    have ha := e4 rfl
    subst ha
    have was : k.ob (.l t') = some (.cells cs false) := by simp [Ctx.ob, h1]; omega
    obtain ⟨x, hx, hxv⟩ := reads_load (off := off) hag hsz (reads_cells (hs.ok.at_ _ _ was).1) hp
    rw [Nat.zero_add] at hx
    exact ⟨rfl, u, x, rfl, hx, hxv⟩
  · rename_i i off
    obtain ⟨o, h1, h2, rfl⟩ := exec_obR he
    rw [← hs.h] at h1
    cases o <;> first
      | (cases h2; done)
      | skip
    rename_i cs fz
    have ⟨u, hp, h9⟩ : ∃ u, part ag off sz cs = some u ∧ out = .val u := by
      cases hp : part ag off sz cs with
      | none => simp only [hp] at h2; cases h2
      | some u => simp only [hp, Option.some.injEq] at h2; exact ⟨u, rfl, h2.symm⟩
    subst h9
    have hI : k.I (.ref i off) a := by
      cases hv with
      | pure h => cases h
      | atom h => exact h
    have ha := hI.2.2 cs fz h1
    subst ha
    obtain ⟨x, hx, hxv⟩ := reads_load (off := off) hag hsz (reads_cells (hs.ok.at_ (.o i) _ h1).1) hp
    rw [Nat.zero_add] at hx
    exact ⟨rfl, u, x, rfl, hx, hxv⟩
  · rename_i i e idx off
    obtain ⟨o, h1, h2, rfl⟩ := exec_obR he
    rw [← hs.h] at h1
    cases o <;> first
      | (cases h2; done)
      | skip
    rename_i xs s0 fz
    have h2' : (bif Nat.beq xs.length e then (match partRow ag idx off sz xs with | some v => some (Out.val v) | none => none) else none) = some out := h2
    obtain ⟨hl, h3⟩ := bif_yes h2'
    have ⟨u, hp, h9⟩ : ∃ u, partRow ag idx off sz xs = some u ∧ out = .val u := by
      cases hp : partRow ag idx off sz xs with
      | none => simp only [hp] at h3; cases h3
      | some u => simp only [hp, Option.some.injEq] at h3; exact ⟨u, rfl, h3.symm⟩
    subst h9
    have hI : k.I (.rptr i e idx off) a := by
      cases hv with
      | pure h => cases h
      | atom h => exact h
    have ha := (hI.2.2 xs s0 fz h1).2 (beq_nat hl).symm
    subst ha
    obtain ⟨⟨arr, ty, fr, cap, c1, c0, c2, c3, c4, c5⟩, c6, c7⟩ := hs.ok.at_ (.o i) _ h1
    unfold partRow at hp
    split at hp
    · rename_i x0 hx0
      have hr : Reads k (k.pl (.o i)) (idx * s0) x0.cells := by
        intro j w hj
        obtain ⟨y, a1, a2, a3, _⟩ := c5 idx x0 j w hx0 hj
        exact ⟨y, by rw [cell_of_row _ _ _ _ _ _ c1]; exact a1, .pure a2⟩
      obtain ⟨x, hx, hxv⟩ := reads_load (off := off) hag hsz hr hp
      exact ⟨rfl, u, x, rfl, hx, hxv⟩
    · cases hp
  · rename_i cs off
    obtain ⟨u, hp, rfl, rfl⟩ := exec_ok1 (v := part ag off sz cs) he
    obtain ⟨b, o, rfl, hr⟩ := reads_cptr hv
    have hr' : Reads k b o cs := fun j w hj => by
      obtain ⟨y, a1, a2⟩ := hr j w hj
      exact ⟨y, a1.2, .pure a2⟩
    obtain ⟨x, hx, hxv⟩ := reads_load (off := off) hag hsz hr' hp
    exact ⟨rfl, u, x, rfl, hx, hxv⟩
theorem did_load {d : Option Nat} {t : TypeId} {ag : Bool} {sz : Nat} {v : V} {a : Value} (hag : aggT P t = some ag) (hsz : sizeT P t = some sz) (hs : At k s) (hv : VR k v a) (he : exec1 (plan cf ev d (.load ag sz) [v]) s = some (out, s')) :
    Did P k s' out ((vS (Instr.loadAt t a)).run P k.w) := by
  obtain ⟨rfl, u, x, rfl, hx, hxv⟩ := load_at hag hsz hs hv (show exec1 (loadV ag sz v) s = some (out, s') from he)
  rw [vS_run hx]
  exact did_val hs.ok hs.lo hs.h hxv

/-! ### stores -/
theorem one_undef {v : V} (h : v.cells.all V.one = true) : v ≠ .undef := fun e => by subst e; cases h
theorem stillCell_pure {h h' : HS} {v v' : V} (e : stillCell h v = some (v', h')) : v'.pureIf = true := by
  have base : ∀ {v : V}, (bif v.pureIf then some (v, h) else none) = some (v', h') → v'.pureIf = true := by
    intro v e
    obtain ⟨hp, e⟩ := bif_yes e
    simp only [Option.some.injEq, Prod.mk.injEq] at e; obtain ⟨rfl, _⟩ := e; exact hp
  cases v <;> simp only [stillCell] at e <;> first
    | exact base e
    | skip
  · split at e
    · obtain ⟨_, e⟩ := bif_yes e
      simp only [Option.some.injEq, Prod.mk.injEq] at e; obtain ⟨rfl, _⟩ := e; rfl
    · cases e
  · simp only [Option.some.injEq, Prod.mk.injEq] at e; obtain ⟨rfl, _⟩ := e; rfl
theorem stillCells_pure : ∀ {vs vs' : List V} {h h' : HS}, stillCells h vs = some (vs', h') → vs'.all V.pureIf = true
  | [], vs', h, h', e => by simp only [stillCells, Option.some.injEq, Prod.mk.injEq] at e; obtain ⟨rfl, _⟩ := e; rfl
  | v :: vs, vs', h, h', e => by
    simp only [stillCells] at e
    split at e
    · rename_i v1 h1 e1
      split at e
      · rename_i vs1 h2 e2
        simp only [Option.some.injEq, Prod.mk.injEq] at e; obtain ⟨rfl, _⟩ := e
        simp only [List.all_cons, stillCell_pure e1, Bool.true_and]; exact stillCells_pure e2
      · cases e
    · cases e
theorem pure_of_if {v : V} (h : v.pureIf = true) : v.pure = true := by
  cases v <;> first
    | exact h
    | (cases h; done)
theorem still_pure {h h' : HS} {v v' : V} (e : still h v = some (v', h')) : v'.pure = true := by
  cases v <;> simp only [still] at e <;> first
    | exact pure_of_if (stillCell_pure e)
    | skip
  split at e
  · rename_i cs' h1 e1
    simp only [Option.some.injEq, Prod.mk.injEq] at e; obtain ⟨rfl, _⟩ := e
    exact stillCells_pure e1
  · cases e
theorem did_store {d : Option Nat} {t : TypeId} {sz : Nat} {v u : V} {a x : Value} (hsz : sizeT P t = some sz) (hs : At k s) (hv : VR k v a) (hu : VR k u x) (he : exec1 (plan cf ev d (.store sz) [v, u]) s = some (out, s')) :
    Did P k s' out ((uS (Instr.storeAt t a x)).run P k.w) := by
  replace he : exec1 (storeV sz u v) s = some (out, s') := he
  cases v <;> first
    | exact dead he rfl
    | skip
  · rename_i t' g off
    obtain ⟨⟨g', cs⟩, l', h1, h2, rfl⟩ := exec_locW he
    have h2' : (bif Nat.beq g g' && Nat.beq u.cells.length sz && Nat.ble (off + sz) cs.length && u.cells.all V.one then some (Out.skip, (g', putCells off u.cells cs)) else none) = some (out, l') := h2
    obtain ⟨hc, h3⟩ := bif_yes h2'
    simp only [Option.some.injEq, Prod.mk.injEq] at h3
    obtain ⟨rfl, rfl⟩ := h3
    simp only [Bool.and_eq_true] at hc
    obtain ⟨⟨⟨c1, c2⟩, c3⟩, c4⟩ := hc
    have c1 := beq_nat c1
    subst c1
    obtain ⟨k', st, l1, g1, hr⟩ := store_loc hs.ok (by rw [hs.lo]; exact h1) hv hu (one_undef c4) hsz (beq_nat c2) (Nat.le_of_ble_eq_true c3) c4
    exact did_unit st (by rw [l1, hs.lo]) (by rw [g1, hs.h]) (uS_run hr)
  · rename_i i off
    obtain ⟨h', h1, rfl⟩ := exec_hpW he
    rw [← hs.h] at h1
    split at h1
    · rename_i cs hi
      obtain ⟨hc, h3⟩ := bif_yes h1
      simp only [Option.some.injEq, Prod.mk.injEq] at h3
      obtain ⟨rfl, rfl⟩ := h3
      simp only [Bool.and_eq_true] at hc
      obtain ⟨⟨⟨c1, c2⟩, c3⟩, c4⟩ := hc
      obtain ⟨k', st, l1, g1, hr⟩ := store_ref hs.ok hi hv hu (one_undef c4) hsz (beq_nat c1) (Nat.le_of_ble_eq_true c2) c4
      exact did_unit st (by rw [l1, hs.lo]) g1 (uS_run hr)
    · cases h1
  · rename_i i e idx off
    obtain ⟨h', h1, rfl⟩ := exec_hpW he
    rw [← hs.h] at h1
    split at h1
    · rename_i y h2 e2
      obtain ⟨k1, st1, l1, rfl, w1, p1⟩ := still_val hs.ok e2 hu
      split at h1
      · rename_i xs s0 hi
        obtain ⟨hc, h3⟩ := bif_yes h1
        rw [Bool.and_eq_true] at hc
        split at h3
        · rename_i xs' hset
          simp only [Option.some.injEq, Prod.mk.injEq] at h3
          obtain ⟨rfl, rfl⟩ := h3
          obtain ⟨k2, st2, l2, g2, hr⟩ := store_row st1.ok hi (beq_nat hc.1) (hv.ext st1.ext) (.pure p1) (still_pure e2) hsz (beq_nat hc.2) hset
          rw [w1] at hr
          exact did_unit (st1.trans st2) (by rw [l2, l1, hs.lo]) g2 (uS_run hr)
        · cases h3
      · cases h1
    · cases h1

/-! ### new variables -/
theorem new_cells {z : List V} {arr : Array Value} {ty : TypeId} (hk : OK k) (hl : arr.size = z.length) (hz : ∀ (j : Nat) (v : V) (x : Value), z[j]? = some v → arr[j]? = some x → VR k v x ∧ x.oneCell' = true) :
    Step k (k.newOb (.cells z false) .nilIface (.cells arr ty)) ∧ VR (k.newOb (.cells z false) .nilIface (.cells arr ty)) (.ref k.h.c 0) (.pointer (some ⟨k.w.heap.size, 0, none⟩)) := by
  have hpl : (k.newOb (.cells z false) .nilIface (.cells arr ty)).pl (.o k.h.c) = k.w.heap.size := upd_same _ _ _
  refine ⟨⟨ext_newOb, ok_newOb hk ⟨⟨arr, ty, ?_, hl, fun j v x hj hx => ⟨(hz j v x hj hx).1.mono C_newOb I_newOb, (hz j v x hj hx).2⟩⟩, fun _ o hs => ?_⟩⟩, .atom ⟨⟨_, _, rfl⟩, Nat.lt_succ_self _, fun cs fz hg => ?_⟩⟩
  · rw [hpl]; exact heap_alloc_new _ _
  · rw [hpl] at hs; have := hk.lt _ _ hs; omega
  · rw [hpl]
theorem zero_run {e : TypeId} {z : V} (h : zeroT P e = some z) (w : World) : ∃ zv, (zeroValue e).run P w = .ok zv w ∧ ∀ k : Ctx, PR k.C z zv ∧ zv.cells.size = z.cells.length ∧ ∀ (j : Nat) (v : V) (x : Value), z.cells[j]? = some v → zv.cells[j]? = some x → PR k.C v x ∧ x.oneCell' = true := by
  obtain ⟨i, zv, hi, hiz, hzv⟩ := zeroT_some h
  refine ⟨zv, by simp [zeroValue, typeInfo, hi, hiz], fun k => ?_⟩
  obtain ⟨p1, p2⟩ := ofVal_pr (C := k.C) hzv
  obtain ⟨q1, q2⟩ := pc_cells p1 p2 (ofVal_undef hzv)
  exact ⟨p1, q1, q2⟩
theorem did_alloc {d : Option Nat} {b : Bool} {e : TypeId} {z : V} {old : Value} (hz : zeroT P e = some z) (hs : At k s) (he : exec1 (plan cf ev d (.alloc z.cells b) []) s = some (out, s')) :
    Did P k s' out ((vS (Instr.alloc e true old)).run P k.w) := by
  obtain ⟨zv, hzv, hzr⟩ := zero_run (P := P) hz k.w
  obtain ⟨z0, z1, z2⟩ := hzr k
  have hrun : (Instr.alloc e true old).run P k.w = .ok (.pointer (some ⟨k.w.heap.size, 0, none⟩)) (k.w.alloc (.cells zv.cells e)) := by simp [Instr.alloc, hzv, newVar, newRow]
  cases b with
  | false =>
    cases d with
    | none => exact dead he rfl
    | some d =>
      obtain ⟨⟨g, cs⟩, l', h1, h2, rfl⟩ := exec_locW he
      simp only [Option.some.injEq, Prod.mk.injEq] at h2
      obtain ⟨rfl, rfl⟩ := h2
      rw [← hs.lo] at h1
      exact did_step (k' := k.newLoc d g z.cells zv.cells e) ⟨ext_newLoc h1, ok_newLoc hs.ok h1 z1 (fun j v x hj hx => ⟨.pure (z2 j v x hj hx).1, (z2 j v x hj hx).2⟩)⟩ (by rw [← hs.lo]; rfl) hs.h (vS_run hrun) (.atom (I_newLoc_new h1))
  | true =>
    obtain ⟨h', h1, rfl⟩ := exec_hpW he
    simp only [Option.some.injEq, Prod.mk.injEq] at h1
    obtain ⟨rfl, rfl⟩ := h1
    obtain ⟨st, hr⟩ := new_cells (z := z.cells) (ty := e) hs.ok z1 (fun j v x hj hx => ⟨.pure (z2 j v x hj hx).1, (z2 j v x hj hx).2⟩)
    rw [← hs.h]
    exact did_step st hs.lo rfl (vS_run hrun) hr
theorem did_box {d : Option Nat} {b : Bool} {e : TypeId} {v : V} {x : Value} (hs : At k s) (hv : VR k v x) (he : exec1 (plan cf ev d (.box b) [v]) s = some (out, s')) :
    Did P k s' out ((vS (Instr.box e x)).run P k.w) := by
  have hrun : (Instr.box e x).run P k.w = .ok (.pointer (some ⟨k.w.heap.size, 0, none⟩)) (k.w.alloc (.cells x.cells e)) := by simp [Instr.box, newVar, newRow]
  cases b with
  | false =>
    cases d with
    | none => exact dead he rfl
    | some d =>
      obtain ⟨⟨g, cs⟩, l', h1, h2, rfl⟩ := exec_locW he
      have h2' : (bif v.cells.all V.one then some (Out.val (.loc d (g + 1) 0), (g + 1, v.cells)) else none) = some (out, l') := h2
      obtain ⟨hc, h2'⟩ := bif_yes h2'
      simp only [Option.some.injEq, Prod.mk.injEq] at h2'
      obtain ⟨rfl, rfl⟩ := h2'
      rw [← hs.lo] at h1
      obtain ⟨z1, z2⟩ := cells_put hv hc (one_undef hc)
      exact did_step (k' := k.newLoc d g v.cells x.cells e) ⟨ext_newLoc h1, ok_newLoc hs.ok h1 z1 z2⟩ (by rw [← hs.lo]; rfl) hs.h (vS_run hrun) (.atom (I_newLoc_new h1))
  | true =>
    obtain ⟨h', h1, rfl⟩ := exec_hpW he
    obtain ⟨hc, h1⟩ := bif_yes h1
    simp only [Option.some.injEq, Prod.mk.injEq] at h1
    obtain ⟨rfl, rfl⟩ := h1
    rw [Bool.and_eq_true] at hc
    obtain ⟨z1, z2⟩ := cells_put hv hc.2 (one_undef hc.2)
    obtain ⟨st, hr⟩ := new_cells (z := v.cells) (ty := e) hs.ok z1 z2
    rw [← hs.h]
    exact did_step st hs.lo rfl (vS_run hrun) hr

/-! ### what is built -/
theorem mapM_places {w : World} : ∀ (l : List Field) (pl : List (Nat × Nat)), mapO (fun f => match sizeT P f.type with | some sz => some (f.offset, sz) | none => none) l = some pl →
    (l.mapM fun f => do pure (f.offset, ← sizeOf f.type) : Sem (List (Nat × Nat))).run P w = .ok pl w
  | [], pl, h => by simp only [mapO, Option.some.injEq] at h; subst h; simp
  | f :: l, pl, h => by
    simp only [mapO] at h
    split at h
    · rename_i b hb
      split at h
      · rename_i pl' hpl
        simp only [Option.some.injEq] at h; subst h
        have ⟨sz, hsz, h9⟩ : ∃ sz, sizeT P f.type = some sz ∧ b = (f.offset, sz) := by
          cases hp : sizeT P f.type with
          | none => simp only [hp] at hb; cases hb
          | some u => simp only [hp, Option.some.injEq] at hb; exact ⟨u, rfl, hb.symm⟩
        subst h9
        have ih := mapM_places (w := w) l pl' hpl
        simp only [List.mapM_cons, Sem.run_bind, sizeT_some hsz, Result.andThen_ok, Sem.run_pure, ih]
      · cases h
    · cases h
theorem did_build {d : Option Nat} {t : TypeId} {z : List V} {pl : List (Nat × Nat)} {ps : Array (Nat × Value)} {vs : List V} (hz : zeroT P t = some (.agg z)) (hpl : placesT P t (ps.toList.map (·.1)) = some pl) (hs : At k s)
    (hl : ps.size = vs.length) (hv : ∀ (i : Nat) (v : V) (x : Nat × Value), vs[i]? = some v → ps[i]? = some x → VR k v x.2) (he : exec1 (plan cf ev d (.build z pl) vs) s = some (out, s')) :
    Did P k s' out ((vS (Instr.build t ps)).run P k.w) := by
  replace he : exec1 (ok1 (bif vs.any V.isUndef then none else match fillCells z pl vs with | some cs => some (.agg cs) | none => none)) s = some (out, s') := he
  refine did_ok1 hs he fun u hu2 => ?_
  cases hun : vs.any V.isUndef with
  | true => rw [hun] at hu2; cases hu2
  | false =>
  rw [hun] at hu2; simp only [cond_false] at hu2
  have hu : ∀ v ∈ vs, v ≠ .undef := fun v hv e => by
    subst e
    have : vs.any V.isUndef = true := List.any_eq_true.2 ⟨_, hv, rfl⟩
    rw [hun] at this; cases this
  have ⟨cs, hcs, h9⟩ : ∃ cs, fillCells z pl vs = some cs ∧ u = .agg cs := by
    cases hp : fillCells z pl vs with
    | none => simp only [hp] at hu2; cases hu2
    | some u => simp only [hp, Option.some.injEq] at hu2; exact ⟨u, rfl, hu2.symm⟩
  subst h9
  obtain ⟨zv, hzv, hzr⟩ := zero_run (P := P) hz k.w
  obtain ⟨z0, z1, z2⟩ := hzr k
  have hrg : RG (VR k) z zv.cells := ⟨z1, fun j v x hj hx => .pure (z2 j v x hj hx).1⟩
  have hparts : ∀ (i : Nat) (v : V) (x : Nat × Value), vs[i]? = some v → ps.toList[i]? = some x → x.2.cells.size = v.cells.length ∧ ∀ (j : Nat) (u : V) (y : Value), v.cells[j]? = some u → x.2.cells[j]? = some y → VR k u y :=
    fun i v x hi hx => cells_rel (hv i v x hi (by simpa using hx)) (hu v (List.mem_of_getElem? hi))
  unfold placesT at hpl
  split at hpl
  · rename_i fs hfs
    split at hpl
    · rename_i places hplaces
      obtain ⟨arr, ha, hra⟩ := fill_rel (R := VR k) (fun i => places[i]?) ps.toList pl vs z cs zv.cells hrg hpl (by simpa using hl) hparts hcs
      have hm := mapM_places (P := P) (w := k.w) fs.toList places hplaces
      have hm2 : (fs.mapM fun f => do pure (f.offset, ← sizeOf f.type) : Sem (Array (Nat × Nat))).run P k.w = .ok places.toArray k.w := by
        have e : fs = fs.toList.toArray := by simp
        rw [e, List.mapM_toArray, ← bind_pure_comp, Sem.run_bind, hm, Result.andThen_ok, Sem.run_pure]
      refine ⟨.agg arr, vS_run ?_, .agg hra.1 hra.2⟩
      have ha2 : Instr.fill (fun i => places.toArray[i]?) zv.cells ps.toList = some arr := by simpa using ha
      simp only [Instr.build, Sem.run_bind, hzv, run_underlying hfs, hm2, Result.andThen_ok, ha2, Sem.run_pure]
    · cases hpl
  · rename_i n e hne
    split at hpl
    · rename_i sz hsz
      simp only [Option.some.injEq] at hpl
      obtain ⟨arr, ha, hra⟩ := fill_rel (R := VR k) (fun i => some (i * sz, sz)) ps.toList pl vs z cs zv.cells hrg (by
        rw [← hpl]
        have : ∀ l : List Nat, mapO (fun i => some (i * sz, sz)) l = some (l.map fun i => (i * sz, sz)) := by
          intro l; induction l with
          | nil => rfl
          | cons a l ih => simp only [mapO, ih, List.map_cons]
        exact this _) (by simpa using hl) hparts hcs
      refine ⟨.agg arr, vS_run ?_, .agg hra.1 hra.2⟩
      simp [Instr.build, hzv, run_underlying hne, sizeT_some hsz, ha]
    · cases hpl
  · cases hpl
end
end Go.Proofs.YthpggdlhoegndaaDoor.LM
