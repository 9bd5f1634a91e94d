/-
  ONE OPERATION, on: parts of texts and lists, conversions, append.
-/
import Derived.Test.YthpggdlhoegndaaDoorLm20
set_option linter.all false
namespace Go.Proofs.YthpggdlhoegndaaDoor.LM
open Go

section
variable {P : Program} {G : Nat → Option (List V)} {k : Ctx} {cf : Cfg} {ev : Ev} {s s' : St} {out : Out}

theorem cutAt_run {lo hi : Option (V × Value)} {len cap l u : Nat} (b : Bool) (hlo : ∀ p, lo = some p → VR k p.1 p.2) (hhi : ∀ p, hi = some p → VR k p.1 p.2)
    (h : cutAt lo.isSome hi.isSome len ((lo.map (·.1)).toList ++ (hi.map (·.1)).toList) = some (l, u)) (hc : len ≤ cap) (w : World) :
    (Instr.sliceBounds b len cap (lo.map (·.2)) (hi.map (·.2)) none).run P w = .ok (l, u, cap) w ∧ l ≤ u ∧ u ≤ len := by
  cases lo with
  | none => cases hi with
    | none =>
      simp only [Option.isSome_none, Option.map_none, Option.toList_none, List.append_nil, cutAt, Option.some.injEq, Prod.mk.injEq] at h
      obtain ⟨rfl, rfl⟩ := h
      exact ⟨by simp [Instr.sliceBounds], Nat.zero_le _, Nat.le_refl _⟩
    | some p =>
      obtain ⟨v, x⟩ := p
      have hx : VR k v x := hhi _ rfl
      simp only [Option.isSome_none, Option.isSome_some, Option.map_none, Option.map_some, Option.toList_none, Option.toList_some, List.nil_append] at h ⊢
      cases v <;> first
        | (cases h; done)
        | skip
      rename_i kd n
      simp only [cutAt] at h
      obtain ⟨h1, h2⟩ := bif_yes h
      simp only [Bool.and_eq_true, decide_eq_true_eq] at h1
      simp only [Option.some.injEq, Prod.mk.injEq] at h2
      obtain ⟨rfl, rfl⟩ := h2
      rw [int_inv hx]
      refine ⟨?_, Nat.zero_le _, by omega⟩
      have : 0 ≤ n ∧ n ≤ (cap : Int) := ⟨h1.1, by omega⟩
      simp [Instr.sliceBounds, Instr.sliceBound, asIntOf, this]
  | some p => cases hi with
    | none =>
      obtain ⟨v, x⟩ := p
      have hx : VR k v x := hlo _ rfl
      simp only [Option.isSome_none, Option.isSome_some, Option.map_none, Option.map_some, Option.toList_none, Option.toList_some, List.append_nil] at h ⊢
      cases v <;> first
        | (cases h; done)
        | skip
      rename_i kd n
      simp only [cutAt] at h
      obtain ⟨h1, h2⟩ := bif_yes h
      simp only [Bool.and_eq_true, decide_eq_true_eq] at h1
      simp only [Option.some.injEq, Prod.mk.injEq] at h2
      obtain ⟨rfl, rfl⟩ := h2
      rw [int_inv hx]
      refine ⟨?_, by omega, Nat.le_refl _⟩
      simp [Instr.sliceBounds, Instr.sliceBound, asIntOf, h1]
    | some q =>
      obtain ⟨v, x⟩ := p
      obtain ⟨v2, x2⟩ := q
      have hx : VR k v x := hlo _ rfl
      have hx2 : VR k v2 x2 := hhi _ rfl
      simp only [Option.isSome_some, Option.map_some, Option.toList_some, List.cons_append, List.nil_append] at h ⊢
      cases v <;> first
        | (cases v2 <;> cases h; done)
        | skip
      cases v2 <;> first
        | (cases h; done)
        | skip
      rename_i kd n kd2 m
      simp only [cutAt] at h
      obtain ⟨h1, h2⟩ := bif_yes h
      simp only [Bool.and_eq_true, decide_eq_true_eq] at h1
      simp only [Option.some.injEq, Prod.mk.injEq] at h2
      obtain ⟨rfl, rfl⟩ := h2
      rw [int_inv hx, int_inv hx2]
      refine ⟨?_, by omega, by omega⟩
      have c1 : 0 ≤ m ∧ m ≤ (cap : Int) := ⟨by omega, by omega⟩
      have c2 : 0 ≤ n ∧ n ≤ (m.toNat : Int) := ⟨by omega, by omega⟩
      have c3 : n ≤ max m 0 := by omega
      simp [Instr.sliceBounds, Instr.sliceBound, asIntOf, c1, c2, c3]
theorem did_sstr {d : Option Nat} {t : TypeId} {lo hi : Option (V × Value)} {v : V} {x : Value} (ht : P.underlying t = some .string) (hs : At k s) (hv : VR k v x) (hlo : ∀ p, lo = some p → VR k p.1 p.2) (hhi : ∀ p, hi = some p → VR k p.1 p.2)
    (he : exec1 (plan cf ev d (.sstr lo.isSome hi.isSome) (v :: ((lo.map (·.1)).toList ++ (hi.map (·.1)).toList))) s = some (out, s')) :
    Did P k s' out ((vS (Instr.sliceAt t x (lo.map (·.2)) (hi.map (·.2)) none)).run P k.w) := by
  cases v <;> first
    | exact dead he rfl
    | skip
  rename_i l
  obtain ⟨u, hu, rfl, rfl⟩ := exec_ok1 (v := match cutAt lo.isSome hi.isSome l.length ((lo.map (·.1)).toList ++ (hi.map (·.1)).toList) with | some (a, b) => some (.str ((l.drop a).take (b - a))) | Option.none => Option.none) he
  split at hu
  · rename_i a b hc
    simp only [Option.some.injEq] at hu; subst hu
    obtain ⟨bs, rfl, hb⟩ := str_inv hv
    obtain ⟨h1, h2, h3⟩ := cutAt_run (P := P) (k := k) false hlo hhi hc (Nat.le_refl _) k.w
    have hsz := str_get hb
    rw [vS_run (x := .string (bs.extract a b)) (w' := k.w)]
    · refine did_val hs.ok hs.lo hs.h (.pure (.str ?_))
      rw [ByteArray.data_extract, Array.toList_extract, hb]
    · simp only [Instr.sliceAt, Sem.run_bind, run_underlying ht, Result.andThen_ok, Instr.slice, hsz, h1, Option.isSome_none, Bool.false_eq_true, if_false, Sem.run_pure]
  · cases hu
theorem pr_cut {C : Cell} {xs : List V} {full f2 : Bool} {a : Option Addr} {len cap sz l u : Nat} (h : PR C (.slice xs full) (.slice a len cap)) (hh : headSz sz xs = true) (h1 : l ≤ u) (h2 : u ≤ xs.length) (hf2 : f2 = true → full = true ∧ u = xs.length) :
    len = xs.length ∧ xs.length ≤ cap ∧ PR C (.slice ((xs.drop l).take (u - l)) f2) (.slice (if cap = l then a else a.map (·.add (l * sz))) (u - l) (cap - l)) := by
  cases h with
  | slice hcap hf ha hsz hc hp =>
    rename_i sz' b o vals
    refine ⟨rfl, hcap, ?_⟩
    have hlen : ((xs.drop l).take (u - l)).length = u - l := by simp; omega
    have hget : ∀ (i : Nat) (v : V), ((xs.drop l).take (u - l))[i]? = some v → xs[l + i]? = some v ∧ i < u - l := by
      intro i v hi
      have hlt : i < u - l := by
        have := (List.getElem?_eq_some_iff.1 hi).1
        omega
      rw [List.getElem?_take, if_pos hlt, List.getElem?_drop] at hi
      exact ⟨hi, hlt⟩
    have hss : 0 < xs.length → sz' = sz := by
      intro h0
      cases xs with
      | nil => simp at h0
      | cons x xs => rw [← hsz 0 x rfl]; exact beq_nat hh
    have key : PR C (.slice ((xs.drop l).take (u - l)) f2) (.slice (if cap = l then a else a.map (·.add (l * sz))) ((xs.drop l).take (u - l)).length (cap - l)) := by
      refine .slice (sz := sz') (b := b) (o := o + l * sz') (vals := fun n => vals (l * sz' + n)) (by rw [hlen]; omega) (fun hf3 => ?_) (fun h0 => ?_) (fun i v hi => hsz _ v (hget i v hi).1) (fun i v j w hi hj => ?_) (fun i v j w hi hj => ?_)
      · obtain ⟨g1, g2⟩ := hf2 hf3
        rw [hlen, hf g1, g2]
      · rw [hlen] at h0
        have h0' : 0 < xs.length := by omega
        rw [ha h0', if_neg (by omega), Option.map_some, add_none, hss h0']
      · have := hc _ v j w (hget i v hi).1 hj
        rw [Nat.add_mul, Nat.add_assoc] at this
        rw [Nat.add_assoc]; exact this
      · have := hp _ v j w (hget i v hi).1 hj
        rw [Nat.add_mul, Nat.add_assoc] at this
        exact this
    rw [hlen] at key
    exact key
theorem sslc_run {t e : TypeId} {sz : Nat} {lo hi : Option (V × Value)} {xs : List V} {full : Bool} {v : V} {x : Value} {w : World} (ht : P.underlying t = some (.slice e)) (hsz : sizeT P e = some sz) (hx : PR k.C (.slice xs full) x)
    (hlo : ∀ p, lo = some p → VR k p.1 p.2) (hhi : ∀ p, hi = some p → VR k p.1 p.2) (hh : headSz sz xs = true) (hc : cutV lo.isSome hi.isSome xs full ((lo.map (·.1)).toList ++ (hi.map (·.1)).toList) = some v) :
    ∃ y, (Instr.sliceAt t x (lo.map (·.2)) (hi.map (·.2)) none).run P w = .ok y w ∧ PR k.C v y := by
  unfold cutV at hc
  split at hc
  · rename_i l u hcut
    simp only [Option.some.injEq] at hc; subst hc
    have hx0 := hx
    cases hx0 with
    | slice hcap hf ha hsl hc hp =>
      rename_i a cap sz' b o vals
      obtain ⟨h1, h2, h3⟩ := cutAt_run (P := P) (k := k) true hlo hhi hcut hcap w
      obtain ⟨_, _, p3⟩ := pr_cut (f2 := full && Nat.beq u xs.length) hx hh h2 h3 (fun h => by rw [Bool.and_eq_true] at h; exact ⟨h.1, beq_nat h.2⟩)
      refine ⟨_, ?_, p3⟩
      simp only [Instr.sliceAt, Sem.run_bind, run_underlying ht, Result.andThen_ok, Instr.slice, h1, sizeT_some hsz, Sem.run_pure]
  · cases hc
theorem did_sslc {d : Option Nat} {t e : TypeId} {sz : Nat} {lo hi : Option (V × Value)} {v : V} {x : Value} (ht : P.underlying t = some (.slice e)) (hsz : sizeT P e = some sz) (hs : At k s) (hv : VR k v x)
    (hlo : ∀ p, lo = some p → VR k p.1 p.2) (hhi : ∀ p, hi = some p → VR k p.1 p.2)
    (he : exec1 (plan cf ev d (.sslc lo.isSome hi.isSome sz) (v :: ((lo.map (·.1)).toList ++ (hi.map (·.1)).toList))) s = some (out, s')) :
    Did P k s' out ((vS (Instr.sliceAt t x (lo.map (·.2)) (hi.map (·.2)) none)).run P k.w) := by
  cases v <;> first
    | exact dead he rfl
    | skip
  · rename_i i n
    obtain ⟨h', h1, rfl⟩ := exec_hpW he
    rw [← hs.h] at h1
    split at h1
    · rename_i xs full h2 e2
      obtain ⟨hh, h1⟩ := bif_yes h1
      split at h1
      · rename_i v hc
        simp only [Option.some.injEq, Prod.mk.injEq] at h1
        obtain ⟨rfl, rfl⟩ := h1
        obtain ⟨k1, st, l1, rfl, w1, p1⟩ := still_cell hs.ok e2 hv
        obtain ⟨y, hr, hy⟩ := sslc_run (k := k1) (w := k.w) ht hsz (slice_weak p1) (fun p h => (hlo p h).ext st.ext) (fun p h => (hhi p h).ext st.ext) hh hc
        exact did_step st (l1.trans hs.lo) rfl (by rw [vS_run hr, w1]) (.pure hy)
      · cases h1
    · cases h1
  · rename_i xs full
    obtain ⟨u, hu, rfl, rfl⟩ := exec_ok1 (v := bif headSz sz xs then cutV lo.isSome hi.isSome xs full ((lo.map (·.1)).toList ++ (hi.map (·.1)).toList) else Option.none) he
    obtain ⟨hh, hc⟩ := bif_yes hu
    obtain ⟨y, hr, hy⟩ := sslc_run (k := k) (w := k.w) ht hsz (slice_inv hv) hlo hhi hh hc
    rw [vS_run hr]
    exact did_val hs.ok hs.lo hs.h (.pure hy)
theorem did_iadS {d : Option Nat} {sz : Nat} {v u : V} {x y : Value} {t e : TypeId} (ht : P.underlying t = some (.slice e)) (hsz : sizeT P e = some sz) (hs : At k s) (hv : VR k v x) (hu : VR k u y)
    (he : exec1 (plan cf ev d (.iadS sz) [v, u]) s = some (out, s')) : Did P k s' out ((vS (Instr.indexAt t x y)).run P k.w) := by
  cases v <;> first
    | (cases u <;> exact dead he rfl; done)
    | skip
  · cases u <;> first
      | exact dead he rfl
      | skip
    rename_i j n kd i
    obtain ⟨h1, rfl⟩ := exec_hpR he
    rw [← hs.h] at h1
    split at h1
    · rename_i xs s0 fz hj
      obtain ⟨hc, h1⟩ := bif_yes h1
      simp only [Option.some.injEq] at h1; subst h1
      simp only [Bool.and_eq_true, decide_eq_true_eq] at hc
      obtain ⟨⟨⟨c1, c2⟩, c3⟩, c4⟩ := hc
      have c1 := beq_nat c1
      subst c1
      have c2 := beq_nat c2
      have hI : k.I (.row j n) x := by
        cases hv with
        | pure h => cases h
        | atom h => exact h
      obtain ⟨arr, ty, fr, cap, a1, a2, rfl, a4, a5, a6, a7, a8⟩ := row_at hs.ok hj hv c2.symm
      rw [int_inv hu]
      rw [vS_run (iadS_run (len := xs.length) ht hsz c3 (by omega) _ _ k.w)]
      refine did_val hs.ok hs.lo hs.h (.atom ⟨⟨_, _, rfl⟩, hI.2.1, fun xs' sz' fz' hg => ?_⟩)
      rw [hj] at hg
      simp only [Option.some.injEq, Ob.row.injEq] at hg
      obtain ⟨rfl, rfl, rfl⟩ := hg
      exact ⟨by omega, fun _ => by simp⟩
    · cases h1
  · cases u <;> first
      | exact dead he rfl
      | skip
    rename_i xs full kd i
    have he' : exec1 (bif decide (0 ≤ i) then (match xs[i.toNat]? with
      | some x => bif Nat.beq x.cells.length sz then ok1 (some (.cptr x.cells 0)) else fail
      | Option.none => fail) else fail) s = some (out, s') := he
    obtain ⟨hb, he'⟩ := exec_bif he'
    simp only [decide_eq_true_eq] at hb
    cases hg : xs[i.toNat]? with
    | none => rw [hg] at he'; exact dead he' rfl
    | some x0 =>
      rw [hg] at he'
      obtain ⟨hl, he'⟩ := exec_bif (b := Nat.beq x0.cells.length sz) (a := ok1 (some (.cptr x0.cells 0))) he'
      obtain ⟨w, hw, rfl, rfl⟩ := exec_ok1 he'
      simp only [Option.some.injEq] at hw; subst hw
      have hp := slice_inv hv
      cases hp with
      | slice hcap hf ha hsl hc hp =>
        rename_i a cap sz' b o vals
        have hlt := (List.getElem?_eq_some_iff.1 hg).1
        have hss : sz' = sz := by rw [← hsl _ _ hg]; exact beq_nat hl
        subst hss
        rw [ha (by omega), int_inv hu]
        rw [vS_run (iadS_run (len := xs.length) ht hsz hb (by omega) _ _ k.w)]
        refine did_val hs.ok hs.lo hs.h (.pure ?_)
        refine .cptr (b := b) (o := o + i.toNat * sz') (off := 0) (vals := fun n => vals (i.toNat * sz' + n)) (fun j v hj => ?_) (fun j v hj => hp _ _ _ _ hg hj)
        have := hc _ _ _ _ hg hj
        rw [Nat.add_assoc]; exact this

/-! ### append -/
theorem appT_of {t u e : TypeId} {sz bytes : Nat} {z : V} (ht : P.underlying t = some (.slice e)) (hu : ∃ d, P.underlying u = some d ∧ (d = .string ∨ ∃ e', d = .slice e')) (hsz : sizeT P e = some sz) (hby : bytesT P e = some bytes) (hz : zeroT P e = some z)
    (h0 : sz ≠ 0) (hzl : z.cells.length = sz) (hb : bytes ≠ 0) : AppT P t u e sz bytes := by
  obtain ⟨i, zv, hi, hiz, hzv⟩ := zeroT_some hz
  obtain ⟨i', hi', hisz⟩ := info_of_sizeT hsz
  rw [hi] at hi'; simp only [Option.some.injEq] at hi'; subst hi'
  have hib : i.bytes = bytes := by
    unfold bytesT at hby; rw [hi] at hby; simpa using hby
  obtain ⟨p1, p2⟩ := ofVal_pr (C := fun _ _ _ => False) hzv
  obtain ⟨q1, q2⟩ := pc_cells p1 p2 (ofVal_undef hzv)
  exact ⟨ht, hu, ⟨i, zv, hi, hiz, hisz, hib, by rw [q1, hzl]⟩, by omega, hb⟩
theorem did_app {d : Option Nat} {t u e ty : TypeId} {sz bytes : Nat} {v w : V} {x y : Value} (hT : AppT P t u e sz bytes) (hs : At k s) (hv : VR k v x) (hw : VR k w y)
    (he : exec1 (plan cf ev d (.app sz bytes) [v, w]) s = some (out, s')) : Did P k s' out ((vS (Builtin.append_ #[t, u] ty #[x, y])).run P k.w) := by
  obtain ⟨du, hu, hdu⟩ := hT.u
  obtain ⟨ti, zv, hti, hz, hisz, hib, hzs⟩ := hT.info
  have hszT : sizeT P e = some sz := by simp [sizeT, hti, hisz]
  replace he : exec1 (appV sz bytes v w) s = some (out, s') := he
  -- nothing is put behind
  have nothing : ∀ {xs : List V} {full : Bool} {news : List Value}, VR k (.slice xs full) x → Src P k y [] sz news → Did P k ⟨s.fr, s.lo, k.h⟩ (.val (.slice xs full)) ((vS (Builtin.append_ #[t, u] ty #[x, y])).run P k.w) := by
    intro xs full news hx src
    have hp := slice_inv hx
    have hn : news = [] := List.eq_nil_of_length_eq_zero (by rw [src.size]; simp)
    subst hn
    cases hp with
    | slice hcap hf ha hsl hc hp =>
      rw [vS_run (append_none hT.t hu hdu hszT (fun W => src.len W) (src.cells k.w rfl) hcap)]
      exact .val (.refl hs.ok hs.lo rfl) hx
  have general : exec1 (.hpW (appF sz bytes v w)) s = some (out, s') → Did P k s' out ((vS (Builtin.append_ #[t, u] ty #[x, y])).run P k.w) := by
    intro he
    obtain ⟨h', h1, rfl⟩ := exec_hpW he
    unfold appF at h1
    rw [← hs.h] at h1
    split at h1
    · cases h1
    · rename_i ys hrow
      obtain ⟨hall, h1⟩ := bif_yes h1
      obtain ⟨news, src⟩ := src_of (P := P) hs.ok hrow hw hall
      unfold appPut at h1
      clear he
      split at h1
      · rename_i xs full _
        split at h1
        · simp only [Option.some.injEq, Prod.mk.injEq] at h1
          obtain ⟨rfl, rfl⟩ := h1
          exact nothing hv src
        · rename_i hne
          obtain ⟨hc, h1⟩ := bif_yes h1
          simp only [Option.some.injEq, Prod.mk.injEq] at h1
          obtain ⟨rfl, rfl⟩ := h1
          simp only [Bool.and_eq_true] at hc
          obtain ⟨⟨c1, c2⟩, c3⟩ := hc
          subst c1
          obtain ⟨olds, src0⟩ := src_of (P := P) (vy := .slice xs true) (ys := xs) (sz := sz) hs.ok rfl hv c3
          have hpos : 0 < ys.length := by
            cases ys with
            | nil => exact absurd rfl hne
            | cons => simp
          obtain ⟨k', r, st, l1, g1, hr, hrv⟩ := app_new (ty := ty) hT hs.ok (slice_inv hv) src0 src hpos (Nat.le_of_ble_eq_true c2)
          exact did_step st (l1.trans hs.lo) g1 (vS_run hr) hrv
      · rename_i i n _
        split at h1
        · rename_i xs sz' hi
          obtain ⟨hc, h1⟩ := bif_yes h1
          simp only [Option.some.injEq, Prod.mk.injEq] at h1
          obtain ⟨rfl, rfl⟩ := h1
          simp only [Bool.and_eq_true] at hc
          obtain ⟨⟨c1, c2⟩, c3⟩ := hc
          have c2 := beq_nat c2
          subst c2
          obtain ⟨k', r, st, l1, g1, hr, hrv⟩ := app_row (ty := ty) hT hs.ok hi (beq_nat c1).symm hv src (Nat.le_of_ble_eq_true c3)
          exact did_step st (l1.trans hs.lo) g1 (vS_run hr) hrv
        · cases h1
      · cases h1
  by_cases hsp : ∃ xs full full2, v = .slice xs full ∧ w = .slice [] full2
  · obtain ⟨xs, full, full2, rfl, rfl⟩ := hsp
    obtain ⟨r, hr, rfl, rfl⟩ := exec_ok1 (v := some (.slice xs full)) he
    simp only [Option.some.injEq] at hr; subst hr
    obtain ⟨news, src⟩ := src_of (P := P) (vy := .slice [] full2) (ys := []) (sz := sz) hs.ok rfl hw rfl
    have := nothing hv src
    rw [hs.h] at this
    exact this
  · unfold appV at he
    split at he
    · exact absurd ⟨_, _, _, rfl, rfl⟩ hsp
    · exact general he
end
end Go.Proofs.YthpggdlhoegndaaDoor.LM
