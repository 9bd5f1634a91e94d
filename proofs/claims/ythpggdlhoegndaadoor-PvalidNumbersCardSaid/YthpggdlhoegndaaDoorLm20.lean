/-
  ONE OPERATION, on: lists, texts, maps.
-/
import Derived.Test.YthpggdlhoegndaaDoorLm19
set_option linter.all false
namespace Go.Proofs.YthpggdlhoegndaaDoor.LM
open Go

section
variable {P : Program} {G : Nat → Option (List V)} {k : Ctx} {cf : Cfg} {ev : Ev} {s s' : St} {out : Out}

theorem exec_any {b : Bool} {a c : Act1} (he : exec1 (bif b then a else c) s = some (out, s')) : (b = true ∧ exec1 a s = some (out, s')) ∨ (b = false ∧ exec1 c s = some (out, s')) := by
  cases b with
  | true => exact .inl ⟨rfl, he⟩
  | false => exact .inr ⟨rfl, he⟩
theorem vals_one {vs : List V} {ps : Array (Nat × Value)} (hl : ps.size = vs.length) (hv : ∀ (i : Nat) (v : V) (x : Nat × Value), vs[i]? = some v → ps[i]? = some x → VR k v x.2) :
    (ps.toList.map (·.2)).length = vs.length ∧ ∀ (i : Nat) (v : V) (x : Value), vs[i]? = some v → (ps.toList.map (·.2))[i]? = some x → VR k v x := by
  refine ⟨by simpa using hl, fun i v x hi hx => ?_⟩
  simp only [List.getElem?_map, Option.map_eq_some_iff] at hx
  obtain ⟨y, hy, rfl⟩ := hx
  exact hv i v y hi (by simpa using hy)
theorem lit_done {k1 : Ctx} {t e : TypeId} {n sz : Nat} {z : V} {ps : Array (Nat × Value)} {vs xs : List V} (st : Step k k1) (hw : k1.w = k.w) (hl1 : k1.lo = s'.lo) (hh1 : k1.h = s'.hs)
    (ht : P.underlying t = some (.slice e)) (hz : zeroT P e = some z) (hsz : sizeT P e = some sz) (hzl : z.cells.length = sz) (hn : n * sz ≤ 16777216) (hl : ps.size = vs.length)
    (hv : ∀ (i : Nat) (v : V) (x : Nat × Value), vs[i]? = some v → ps[i]? = some x → PR k1.C v x.2 ∧ v.cells.all V.one = true ∧ v ≠ .undef)
    (hf : fillRow sz (List.replicate n z) (ps.toList.map (·.1)) vs = some xs) : Did P k s' (.val (.slice xs true)) ((vS (Instr.buildSlice t n ps)).run P k.w) := by
  obtain ⟨arr, hr, hrg, hlen, hsizes⟩ := lit_run (C := k1.C) (w := k.w) ht hz hsz hzl hn hl hv hf
  rw [← hw] at hr ⊢
  obtain ⟨st2, hp⟩ := lit_new (e := e) st.ok hsizes hrg
  rw [hlen] at hp
  exact did_step (st.trans st2) hl1 hh1 (vS_run hr) (.pure (by rw [← hlen] at hp ⊢; exact hp))
theorem did_lit {d : Option Nat} {t e : TypeId} {n sz : Nat} {z : V} {own : Bool} {ps : Array (Nat × Value)} {vs : List V} (ht : P.underlying t = some (.slice e)) (hz : zeroT P e = some z) (hsz : sizeT P e = some sz)
    (hzl : z.cells.length = sz) (hn : n * sz ≤ 16777216) (hs : At k s) (hl : ps.size = vs.length) (hv : ∀ (i : Nat) (v : V) (x : Nat × Value), vs[i]? = some v → ps[i]? = some x → VR k v x.2)
    (he : exec1 (plan cf ev d (.lit n sz z (ps.toList.map (·.1)) own) vs) s = some (out, s')) : Did P k s' out ((vS (Instr.buildSlice t n ps)).run P k.w) := by
  obtain ⟨vl, vv⟩ := vals_one hl hv
  have calmed : ∀ {vs' : List V}, mapO calm vs = some vs' → ps.size = vs'.length ∧ ∀ (i : Nat) (v : V) (x : Nat × Value), vs'[i]? = some v → ps[i]? = some x → PR k.C v x.2 ∧ v.cells.all V.one = true ∧ v ≠ .undef := by
    intro vs' e2
    obtain ⟨n1, p1⟩ := mapO_some e2
    refine ⟨by rw [hl, n1], fun i v x hi hx => ?_⟩
    have hlt : i < vs.length := by
      have := (List.getElem?_eq_some_iff.1 hi).1
      omega
    obtain ⟨u, hu, hi2⟩ := p1 i _ (List.getElem?_eq_getElem hlt)
    rw [hi] at hi2; simp only [Option.some.injEq] at hi2; subst hi2
    exact ⟨calm_val hu (hv i _ x (List.getElem?_eq_getElem hlt) hx), calm_one hu⟩
  cases own with
  | false =>
    have he' : exec1 (bif vs.any V.hasRow then .hpW fun h => match stills h vs with
      | some (vs', h') => match fillRow sz (List.replicate n z) (ps.toList.map (·.1)) vs' with
        | some xs => some (.val (.slice xs true), h')
        | Option.none => Option.none
      | Option.none => Option.none
      else ok1 (match mapO calm vs with
      | some vs' => match fillRow sz (List.replicate n z) (ps.toList.map (·.1)) vs' with | some xs => some (.slice xs true) | Option.none => Option.none
      | Option.none => Option.none)) s = some (out, s') := he
    rcases exec_any he' with ⟨_, he⟩ | ⟨_, he⟩
    · obtain ⟨h', h1, rfl⟩ := exec_hpW he
      rw [← hs.h] at h1
      split at h1
      · rename_i vs' h2 e2
        split at h1
        · rename_i xs e3
          simp only [Option.some.injEq, Prod.mk.injEq] at h1
          obtain ⟨rfl, rfl⟩ := h1
          obtain ⟨k1, st, l1, rfl, w1, n1, p1⟩ := still_vals (xs := ps.toList.map (·.2)) hs.ok e2 vl vv
          refine lit_done st w1 (l1.trans hs.lo) rfl ht hz hsz hzl hn (by rw [hl, n1]) (fun i v x hi hx => ⟨p1 i v x.2 hi (by simp; exact ⟨x.1, by simpa using hx⟩), stills_one e2 v (List.mem_of_getElem? hi)⟩) e3
        · cases h1
      · cases h1
    · obtain ⟨u, hu, rfl, rfl⟩ := exec_ok1 he
      split at hu
      · rename_i vs' e2
        split at hu
        · rename_i xs e3
          simp only [Option.some.injEq] at hu; subst hu
          obtain ⟨c1, c2⟩ := calmed e2
          exact lit_done (.refl hs.ok) rfl hs.lo hs.h ht hz hsz hzl hn c1 c2 e3
        · cases hu
      · cases hu
  | true =>
    obtain ⟨h', h1, rfl⟩ := exec_hpW (f := fun h => match mapO calm vs with
      | some vs' => (match fillRow sz (List.replicate n z) (ps.toList.map (·.1)) vs' with
        | some xs => some (.val (.row h.c n), h.new (.row xs sz false))
        | Option.none => Option.none)
      | Option.none => Option.none) he
    split at h1
    · rename_i vs' e2
      split at h1
      · rename_i xs e3
        simp only [Option.some.injEq, Prod.mk.injEq] at h1
        obtain ⟨rfl, rfl⟩ := h1
        obtain ⟨c1, c2⟩ := calmed e2
        obtain ⟨arr, hr, hrg, hlen, hsizes⟩ := lit_run (C := k.C) (w := k.w) ht hz hsz hzl hn c1 c2 e3
        obtain ⟨s1, s2⟩ := new_row (ty := e) hs.ok (Nat.le_refl xs.length) (by rw [hrg.1, flat_length hsizes]; exact Nat.le_refl _) hsizes (elems_of_flat hsizes hrg)
        rw [← hs.h]
        rw [hlen] at s1 s2
        exact did_step s1 hs.lo rfl (vS_run hr) s2
      · cases h1
    · cases h1
theorem did_mkmap {d : Option Nat} {t : TypeId} (hs : At k s) (he : exec1 (plan cf ev d .mkmap []) s = some (out, s')) : Did P k s' out ((vS (Instr.makeMap t none)).run P k.w) := by
  obtain ⟨h', h1, rfl⟩ := exec_hpW he
  simp only [Option.some.injEq, Prod.mk.injEq] at h1
  obtain ⟨rfl, rfl⟩ := h1
  obtain ⟨k', x, st, l1, g1, hr, hx⟩ := mkmap_run (P := P) (t := t) hs.ok
  rw [← hs.h]
  exact did_step st (l1.trans hs.lo) g1 (vS_run hr) hx
theorem did_mkslice {d : Option Nat} {t e : TypeId} {sz bytes : Nat} {z : V} {v u : V} {x y : Value} (ht : P.underlying t = some (.slice e)) (hz : zeroT P e = some z) (hsz : sizeT P e = some sz) (hby : bytesT P e = some bytes) (hs : At k s) (hv : VR k v x) (hu : VR k u y)
    (he : exec1 (plan cf ev d (.mkslice z sz bytes) [v, u]) s = some (out, s')) : Did P k s' out ((vS (Instr.makeSlice t x y)).run P k.w) := by
  cases v <;> first
    | (cases u <;> exact dead he rfl; done)
    | skip
  cases u <;> first
    | exact dead he rfl
    | skip
  rename_i k1 l k2 c
  obtain ⟨h', h1, rfl⟩ := exec_hpW he
  obtain ⟨hc, h1⟩ := bif_yes h1
  simp only [Option.some.injEq, Prod.mk.injEq] at h1
  obtain ⟨rfl, rfl⟩ := h1
  simp only [Bool.and_eq_true, decide_eq_true_eq] at hc
  obtain ⟨⟨⟨⟨c1, c2⟩, c3⟩, c5⟩, c4⟩ := hc
  subst c2
  have hzl := beq_nat c4
  rw [int_inv hv, int_inv hu]
  obtain ⟨arr, hr, hrg⟩ := mkslice_run (k := k) (k1 := k1) (k2 := k2) (w := k.w) ht hz hsz hby hzl c1 c3 c5
  have hsizes : ∀ (i : Nat) (v : V), (List.replicate l.toNat z)[i]? = some v → v.cells.length = sz := fun i v h => by
    rw [List.eq_of_mem_replicate (List.mem_of_getElem? h)]; exact hzl
  have hlen : (List.replicate l.toNat z).length = l.toNat := List.length_replicate
  obtain ⟨s1, s2⟩ := new_row (ty := e) hs.ok (Nat.le_refl _) (by rw [hrg.1, flat_length hsizes]; exact Nat.le_refl _) hsizes (elems_of_flat hsizes hrg)
  rw [hlen] at s1 s2
  rw [← hs.h]
  exact did_step s1 hs.lo rfl (vS_run hr) s2
theorem did_look {d : Option Nat} {t kt e : TypeId} {z : V} {tk : TK} {ok : Bool} {v u : V} {x y : Value} (hm : P.underlying t = some (.map kt e)) (hz : zeroT P e = some z) (hkt : keyT P kt = some tk) (hs : At k s) (hv : VR k v x) (hu : VR k u y)
    (he : exec1 (plan cf ev d (.look z ok tk) [v, u]) s = some (out, s')) : Did P k s' out ((vS (Instr.lookup t x y ok)).run P k.w) := by
  cases v <;> first
    | exact dead he rfl
    | skip
  · obtain ⟨w, hw, rfl, rfl⟩ := exec_ok1 (v := some (bif ok then .tuple [z, .bool false] else z)) he
    simp only [Option.some.injEq] at hw; subst hw
    obtain ⟨r, hr, hrv⟩ := look_nil (key := u) (ok := ok) (x := y) hm hz hkt hv k.w
    rw [vS_run hr]
    exact did_val hs.ok hs.lo hs.h hrv
  · rename_i i
    obtain ⟨h1, rfl⟩ := exec_hpR he
    rw [← hs.h] at h1
    split at h1
    · rename_i es hi
      obtain ⟨hkey, h1⟩ := bif_yes h1
      have key : ∀ r, findKey tk u es 0 = some r → out = .val (lookOut z ok r) → Did P k s' out ((vS (Instr.lookup t x y ok)).run P k.w) := by
        intro r hf ho
        subst ho
        obtain ⟨q, hr, hrv⟩ := look_run (ok := ok) hm hz hkt hs.ok hi hv hu hkey hf
        rw [vS_run hr]
        exact did_val hs.ok hs.lo hs.h hrv
      split at h1
      · rename_i j w hf
        simp only [Option.some.injEq] at h1
        exact key _ hf h1.symm
      · rename_i hf
        simp only [Option.some.injEq] at h1
        exact key _ hf h1.symm
      · cases h1
    · cases h1
theorem did_mset {d : Option Nat} {t kt e : TypeId} {tk : TK} {v u q : V} {x y r : Value} (hm : P.underlying t = some (.map kt e)) (hkt : keyT P kt = some tk) (hs : At k s) (hv : VR k v x) (hu : VR k u y) (hq : VR k q r)
    (he : exec1 (plan cf ev d (.mset tk) [v, u, q]) s = some (out, s')) : Did P k s' out ((uS (Instr.mapUpdate t x y r)).run P k.w) := by
  cases v <;> first
    | exact dead he rfl
    | skip
  rename_i i
  obtain ⟨h', h1, rfl⟩ := exec_hpW he
  rw [← hs.h] at h1
  split at h1
  · rename_i y' h2 e2
    obtain ⟨k1, st1, l1, rfl, w1, p1⟩ := still_val hs.ok e2 hq
    obtain ⟨hkey, h1⟩ := bif_yes h1
    split at h1
    · rename_i es hi
      have key : ∀ res, findKey tk u es 0 = some res → out = .skip → h' = k1.h.set i (.map (setOut es u y' res)) → Did P k ⟨s.fr, s.lo, h'⟩ out ((uS (Instr.mapUpdate t x y r)).run P k.w) := by
        intro res hf ho hh
        subst ho hh
        obtain ⟨k2, st2, l2, g2, hr⟩ := mset_run hm hkt st1.ok hi (hv.ext st1.ext) (hu.ext st1.ext) hkey p1 hf
        rw [w1] at hr
        exact did_unit (st1.trans st2) (by rw [l2, l1, hs.lo]) g2 (uS_run hr)
      split at h1
      · rename_i j w hf
        simp only [Option.some.injEq, Prod.mk.injEq] at h1
        exact key _ hf h1.1.symm h1.2.symm
      · rename_i hf
        simp only [Option.some.injEq, Prod.mk.injEq] at h1
        exact key _ hf h1.1.symm h1.2.symm
      · cases h1
    · cases h1
  · cases h1
theorem did_len0 {d : Option Nat} {v : V} {x : Value} {t ty : TypeId} (ht : P.underlying t = some .string) (hs : At k s) (hv : VR k v x)
    (he : exec1 (plan cf ev d (.len 0) [v]) s = some (out, s')) : Did P k s' out ((vS (Builtin.len_ #[t] ty #[x])).run P k.w) := by
  cases v <;> first
    | exact dead he rfl
    | skip
  rename_i l
  refine did_ok1 hs (v := some (.int .i64 l.length)) he fun r hr => ?_
  simp only [Option.some.injEq] at hr; subst hr
  obtain ⟨b, rfl, hb⟩ := str_inv hv
  exact ⟨.int .i64 l.length, vS_run (by simp [Builtin.len_, run_underlying ht, goInt, str_get hb]), .pure (.int _ _)⟩
theorem did_len1 {d : Option Nat} {v : V} {x : Value} {t ty a : TypeId} (ht : P.underlying t = some (.slice a)) (hs : At k s) (hv : VR k v x)
    (he : exec1 (plan cf ev d (.len 1) [v]) s = some (out, s')) : Did P k s' out ((vS (Builtin.len_ #[t] ty #[x])).run P k.w) := by
  cases v <;> first
    | exact dead he rfl
    | skip
  · rename_i i e1
    refine did_ok1 hs (v := some (.int .i64 e1)) he fun r hr => ?_
    simp only [Option.some.injEq] at hr; subst hr
    have hI : k.I (.row i e1) x := by
      cases hv with
      | pure h => cases h
      | atom h => exact h
    obtain ⟨⟨ad, cap, rfl⟩, _⟩ := hI
    exact ⟨.int .i64 e1, vS_run (by simp [Builtin.len_, run_underlying ht, goInt]), .pure (.int _ _)⟩
  · rename_i xs full
    refine did_ok1 hs (v := some (.int .i64 xs.length)) he fun r hr => ?_
    simp only [Option.some.injEq] at hr; subst hr
    have hp := slice_inv hv
    cases hp with
    | slice hcap hf ha hsz hc hp =>
      exact ⟨.int .i64 xs.length, vS_run (by simp [Builtin.len_, run_underlying ht, goInt]), .pure (.int _ _)⟩
theorem did_len2 {d : Option Nat} {v : V} {x : Value} {t ty a b : TypeId} (ht : P.underlying t = some (.map a b)) (hs : At k s) (hv : VR k v x)
    (he : exec1 (plan cf ev d (.len 2) [v]) s = some (out, s')) : Did P k s' out ((vS (Builtin.len_ #[t] ty #[x])).run P k.w) := by
  cases v <;> first
    | exact dead he rfl
    | skip
  · refine did_ok1 hs (v := some (.int .i64 0)) he fun r hr => ?_
    simp only [Option.some.injEq] at hr; subst hr
    rw [nilmap_inv hv]
    exact ⟨.int .i64 0, vS_run (by simp [Builtin.len_, run_underlying ht, goInt]), .pure (.int _ _)⟩
  · rename_i i
    obtain ⟨h1, rfl⟩ := exec_hpR he
    rw [← hs.h] at h1
    split at h1
    · rename_i es hi
      simp only [Option.some.injEq] at h1; subst h1
      rw [map_inv hv hi]
      obtain ⟨⟨ents, clock, c1, c2, c3⟩, c4⟩ := hs.ok.at_ (.o i) _ hi
      rw [vS_run (x := .int .i64 es.length) (w' := k.w) (by simp [Builtin.len_, run_underlying ht, MapKept.run_getObj_map c1, goInt, c2, Result.andThen])]
      exact did_val hs.ok hs.lo hs.h (.pure (.int _ _))
    · cases h1
end
end Go.Proofs.YthpggdlhoegndaaDoor.LM
