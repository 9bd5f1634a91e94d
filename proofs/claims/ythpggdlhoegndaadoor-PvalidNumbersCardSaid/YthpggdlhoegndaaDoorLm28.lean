/-
  CODE: what the evaluator does with compiled code, the machine does with the code.
-/
import Derived.Test.YthpggdlhoegndaaDoorLm27
set_option linter.all false
namespace Go.Proofs.YthpggdlhoegndaaDoor.LM
open Go

section
variable {P : Program} {G : Nat → Option (List V)} {fz esc : Nat → Bool} {cf : Cfg} {ev : Ev}

theorem mkEl_get : ∀ (n : Nat) (ops : List LOper) (bs : List Acc) (m : Nat) (x : El), (mkEl n ops bs)[m]? = some x → ops[m]? = some x.o ∧ bs[m]? = some x.A ∧ x.j = n + m
  | n, [], bs, m, x, h => by simp [mkEl] at h
  | n, o :: ops, [], m, x, h => by simp [mkEl] at h
  | n, o :: ops, b :: bs, m, x, h => by
    cases m with
    | zero => simp only [mkEl, List.getElem?_cons_zero, Option.some.injEq] at h; subst h; exact ⟨rfl, rfl, rfl⟩
    | succ m =>
      obtain ⟨h1, h2, h3⟩ := mkEl_get (n + 1) ops bs m x (by simpa [mkEl] using h)
      exact ⟨by simpa using h1, by simpa using h2, by omega⟩
theorem mkEl_at : ∀ (n : Nat) (ops : List LOper) (bs : List Acc) (m : Nat), bs.length = ops.length → m < ops.length → ∃ x, (mkEl n ops bs)[m]? = some x ∧ x.j = n + m
  | n, [], bs, m, hl, h => by simp at h
  | n, o :: ops, [], m, hl, h => by simp at hl
  | n, o :: ops, b :: bs, m, hl, h => by
    cases m with
    | zero => exact ⟨⟨n, o, b⟩, by simp [mkEl], rfl⟩
    | succ m =>
      obtain ⟨x, h1, h2⟩ := mkEl_at (n + 1) ops bs m (by simpa using hl) (by simpa using h)
      exact ⟨x, by simpa [mkEl] using h1, by omega⟩
theorem mkEl_length : ∀ (n : Nat) (ops : List LOper) (bs : List Acc), bs.length = ops.length → (mkEl n ops bs).length = ops.length
  | n, [], bs, hl => by simp [mkEl]
  | n, o :: ops, [], hl => by simp at hl
  | n, o :: ops, b :: bs, hl => by simp [mkEl, mkEl_length (n + 1) ops bs (by simpa using hl)]
theorem runs_acc : ∀ (l : List El) (s s' : St), Runs cf ev l s s' → ∀ x ∈ l, ∃ t, accOf cf ev x.o t = x.A
  | [], s, s', h, x, hx => by cases hx
  | y :: l, s, s', h, x, hx => by
    obtain ⟨h1, s1, h2, h3⟩ := h
    rcases List.mem_cons.1 hx with rfl | hx
    · exact ⟨s, h1⟩
    · exact runs_acc l s1 s' h3 x hx
theorem acc_calm {o : LOper} {t : St} {A : Acc} (h : accOf cf ev o t = A) (hc : o.op.calm = true) : A = .none := by
  subst h
  unfold accOf
  cases wanted t.fr o.guard
  · rfl
  · exact plan_calm hc
theorem ok_none_r (A : Acc) : Acc.ok A .none = true := by cases A <;> rfl

/-- what 'drawn' has made of compiled operations -/
theorem drawn_spec {ops : Array Oper} {ls ds : List LOper} (h : drawn ops ls = some ds) : ds.length = ls.length ∧ ∀ (j : Nat) (o : LOper), ls[j]? = some o → ∃ u, ds[j]? = some { o with un := u } ∧
    (∀ i, i < j → bf ops j i = false → ∃ p, ls[i]? = some p ∧ apartTmps p o = true ∧ (o.op.calm = true ∨ p.op.calm = true ∨ i ∈ u)) := by
  unfold drawn at h
  obtain ⟨h1, h2⟩ := mapO_some h
  refine ⟨by simpa using h1, fun j o ho => ?_⟩
  obtain ⟨d, hd, hdj⟩ := h2 j (o, j) (by simp [List.getElem?_zipIdx, ho])
  simp only at hd
  obtain ⟨hall, hd⟩ := bif_yes hd
  simp only [Option.some.injEq] at hd
  subst hd
  refine ⟨_, hdj, fun i hi hb => ?_⟩
  have hmem : i ∈ loose (Region.before ops) j := by
    unfold loose
    rw [List.mem_filter, List.mem_range]
    refine ⟨hi, ?_⟩
    unfold bf at hb
    rw [hb]; rfl
  have hap := List.all_eq_true.1 hall i hmem
  cases hp : ls[i]? with
  | none => rw [hp] at hap; cases hap
  | some p =>
    rw [hp] at hap
    refine ⟨p, rfl, hap, ?_⟩
    cases hc : o.op.calm with
    | true => exact .inl rfl
    | false =>
      cases hc2 : p.op.calm with
      | true => exact .inr (.inl rfl)
      | false =>
        refine .inr (.inr ?_)
        simp only [cond_false]
        rw [List.mem_filter]
        refine ⟨hmem, ?_⟩
        rw [hp]; simp [hc2]
theorem opers_ok {ops : Array Oper} {ls : List LOper} (h : mapO (operOf P G fz esc ops) ops.toList = some ls) : ls.length = ops.size ∧ ∀ (j : Nat) (lo : LOper), ls[j]? = some lo → ∃ o, ops[j]? = some o ∧ OperOK P G ops fz esc (turned P ops) o lo := by
  obtain ⟨h1, h2⟩ := mapO_some h
  refine ⟨by simpa using h1, fun j lo hj => ?_⟩
  have hlt : j < ops.size := by
    have := (List.getElem?_eq_some_iff.1 hj).1
    rw [h1, Array.length_toList] at this; exact this
  obtain ⟨b, hb, hbj⟩ := h2 j ops[j] (by simp [hlt])
  rw [hj] at hbj; simp only [Option.some.injEq] at hbj; subst hbj
  exact ⟨ops[j], by simp [hlt], operOf_ok hb⟩
theorem OperOK.un {ops : Array Oper} {tl : List Nat} {o : Oper} {lo : LOper} (h : OperOK P G ops fz esc tl o lo) (u : List Nat) : OperOK P G ops fz esc tl o { lo with un := u } := ⟨h.dst, h.op, h.guard⟩
theorem apart_un {a b : LOper} (u w : List Nat) : apartTmps { a with un := u } { b with un := w } = apartTmps a b := rfl

theorem region_wp {id : Nat} {ops : Array Oper} {draw : Bool} {lc : LCode} {n : Nat} {k : Ctx} {s s1 : St} {a : Act} {e : Ex} {Q : Exit → Act → World → Prop} (hev : CallSound P G ev) (hc : regOf P G fz esc ops draw = some lc) (hG : GR G k) (hr : Rel k s a)
    (he : evalCode cf ev n lc s = some (e, s1)) (hm : Meets k e s1 Q) : (Code.region id ops draw).wp P Q a k.w := by
  unfold regOf at hc
  simp only [Option.bind_eq_bind, Option.bind_eq_some_iff] at hc
  obtain ⟨ls, hls, hc⟩ := hc
  obtain ⟨hlen, hok⟩ := opers_ok hls
  cases draw with
  | false =>
    simp only [cond_false, Option.some.injEq] at hc
    subst hc
    refine wp_region (runOps_wp (cf := cf) (fz := fz) (esc := esc) (tl := turned P ops) hev (List.range ops.size) ls k s a e s1 hG hr (by simp [hlen]) (fun m i lo hi hlo => ?_) he hm)
    have hmi : i = m := by
      rw [List.getElem?_range (by
        have := (List.getElem?_eq_some_iff.1 hi).1
        simpa using this)] at hi
      simpa using hi.symm
    subst hmi
    exact hok i lo hlo
  | true =>
    simp only [cond_true] at hc
    obtain ⟨hcond, hc⟩ := bif_yes hc
    simp only [Option.bind_eq_some_iff, Option.some.injEq] at hc
    obtain ⟨ds, hds, rfl⟩ := hc
    rw [Bool.and_eq_true] at hcond
    obtain ⟨hmix, hed⟩ := hcond
    obtain ⟨hdl, hdspec⟩ := drawn_spec hds
    have he' : runDraw cf ev ds [] s = some (e, s1) := he
    obtain ⟨rfl, bs, hbl, hruns, hun⟩ := runs_of_draw ds [] s e s1 0 he'
    have hedge : ∀ (i : Nat) (o : Oper), ops[i]? = some o → ∀ e ∈ o.after.toList, Region.binds .any e = true → e.on < i := by
      intro i o ho e hee hb
      have := List.all_eq_true.1 hed (o, i) (by
        refine List.mem_iff_getElem?.2 ⟨i, ?_⟩
        simp [List.getElem?_zipIdx, ho])
      have h2 := Array.all_eq_true_iff_forall_mem.1 this e (by simpa using hee)
      simp only [hb, Bool.not_true, Bool.false_or] at h2
      simpa [Nat.blt_eq] using h2
    refine wp_region_any hmix ?_
    have hdrew : ({ k.w with drawn := k.w.drawn + 1 } : World) = k.drew.w := rfl
    rw [hdrew]
    have hst : Step k k.drew := ⟨ext_drew k, ok_drew hr.at_.ok⟩
    have hr' : Rel k.drew s a := ⟨⟨hst.ok, hr.at_.lo, hr.at_.h⟩, hr.fr.ext hst.ext, hr.defers⟩
    have hels := mkEl_length 0 ds bs hbl
    have hget : ∀ (m : Nat) (x : El), (mkEl 0 ds bs)[m]? = some x → x.j = m ∧ ∃ o u, ls[m]? = some o ∧ x.o = { o with un := u } := by
      intro m x hx
      obtain ⟨h1, h2, h3⟩ := mkEl_get 0 ds bs m x hx
      have hlt : m < ls.length := by
        have := (List.getElem?_eq_some_iff.1 h1).1
        omega
      obtain ⟨u, hu, _⟩ := hdspec m ls[m] (List.getElem?_eq_getElem hlt)
      rw [h1] at hu; simp only [Option.some.injEq] at hu
      exact ⟨by omega, _, u, List.getElem?_eq_getElem hlt, hu⟩
    refine any_sound (cf := cf) (fz := fz) (esc := esc) (tl := turned P ops) hev hedge ops.size (Array.replicate ops.size false) (mkEl 0 ds bs) k.drew s a s1 (hG.ext hst.ext) hr' hruns ?_ (fun x hx => ?_) (fun j hj => ?_) (fun j hj h => ?_) (by simp) (by omega) (hm.step hst)
    · rw [List.pairwise_iff_getElem]
      intro i m hi hm2 him
      have ei := List.getElem?_eq_getElem hi
      have em := List.getElem?_eq_getElem hm2
      generalize (mkEl 0 ds bs)[i] = x at ei
      generalize (mkEl 0 ds bs)[m] = y at em
      obtain ⟨x1, x2, x3⟩ := mkEl_get 0 ds bs i x ei
      obtain ⟨y1, y2, y3⟩ := mkEl_get 0 ds bs m y em
      refine ⟨by omega, fun hb => ?_⟩
      have hxj : x.j = i := by omega
      have hyj : y.j = m := by omega
      rw [hxj, hyj] at hb
      have hlt : m < ls.length := by omega
      obtain ⟨u, hu, hpair⟩ := hdspec m ls[m] (List.getElem?_eq_getElem hlt)
      rw [y1] at hu; simp only [Option.some.injEq] at hu
      obtain ⟨p, hp, hap, hcalm⟩ := hpair i him hb
      obtain ⟨u2, hu2, _⟩ := hdspec i p hp
      rw [x1] at hu2; simp only [Option.some.injEq] at hu2
      refine ⟨by rw [hu, hu2]; exact hap, ?_⟩
      rcases hcalm with hc | hc | hc
      · obtain ⟨t, ht⟩ := runs_acc _ _ _ hruns y (List.mem_of_getElem? em)
        rw [acc_calm ht (by rw [hu]; exact hc)]
        exact ok_none_r _
      · obtain ⟨t, ht⟩ := runs_acc _ _ _ hruns x (List.mem_of_getElem? ei)
        rw [acc_calm ht (by rw [hu2]; exact hc)]
        rfl
      · have := hun m y.o y1 i (by rw [hu]; exact hc)
        have e1 : (([] : List Acc) ++ bs.take m).getD i .hpW = x.A := by
          simp [List.getD, List.getElem?_take, him, x2]
        have e2 : bs.getD m .none = y.A := by simp [List.getD, y2]
        rw [e1, e2] at this
        exact this
    · obtain ⟨m, hm2⟩ := List.mem_iff_getElem?.1 hx
      obtain ⟨h1, o, u, h2, h3⟩ := hget m x hm2
      obtain ⟨o', ho', hoo⟩ := hok m o h2
      exact ⟨o', by rw [h1]; exact ho', by rw [h3]; exact hoo.un u⟩
    · constructor
      · intro _
        obtain ⟨x, hx, hxj⟩ := mkEl_at 0 ds bs j hbl (by omega)
        exact ⟨x, List.mem_of_getElem? hx, by omega⟩
      · intro _
        rw [Array.getD_eq_getD_getElem?, Array.getElem?_replicate, if_pos hj]; rfl
    · rw [Array.getD_eq_getD_getElem?, Array.getElem?_replicate, if_pos hj] at h; cases h

theorem then_other {next : Act → World → Prop} {Q : Exit → Act → World → Prop} {k : Ctx} {e : Ex} {s1 : St} (h : e ≠ .normal) (hm : Meets k e s1 Q) : Meets k e s1 (Exit.then next Q) := by
  intro k' a' st hrel
  have := hm k' a' st hrel
  cases e with
  | normal => exact absurd rfl h
  | exit id => exact this
  | ret => exact this
  | panic v => exact this
theorem setRow_same {w : World} {b : Nat} {arr : Array Value} {ty : TypeId} (h : w.heap[b]? = some (.cells arr ty (0, 0))) : w.setRow b arr = w := by
  have : (w.setRow b arr).heap = w.heap := by
    apply Array.ext_getElem?
    intro j
    by_cases hj : j = b
    · subst hj; rw [setRow_heap _ _ _ _ _ _ h, h]
    · exact setRow_other _ _ _ _ hj
  have e : w.setRow b arr = { w with heap := (w.setRow b arr).heap } := rfl
  rw [e, this]
theorem frz_step {k : Ctx} {s s1 : St} {a : Act} {t n : Nat} {e : Ex} (hr : Rel k s a) (he : evalCode cf ev n (.frz t) s = some (e, s1)) : e = .normal ∧ ∃ k', Step k k' ∧ k'.w = k.w ∧ Rel k' s1 a := by
  simp only [evalCode] at he
  split at he
  · rename_i g cs hd
    cases hg : Nat.beq g 0 with
    | true =>
      rw [hg] at he
      simp only [cond_true, Option.some.injEq, Prod.mk.injEq] at he
      obtain ⟨rfl, rfl⟩ := he
      exact ⟨rfl, k, .refl hr.at_.ok, rfl, hr⟩
    | false =>
      rw [hg] at he
      simp only [cond_false] at he
      split at he
      · rename_i cs' h' e1
        simp only [Option.some.injEq, Prod.mk.injEq] at he
        obtain ⟨rfl, rfl⟩ := he
        have hpos : 0 < g := Nat.pos_of_ne_zero (fun e => by subst e; cases hg)
        rw [← hr.at_.lo] at hd
        rw [← hr.at_.h] at e1
        have was : k.ob (.l t) = some (.cells cs false) := by simp [Ctx.ob, hd]; omega
        obtain ⟨⟨arr, ty, c1, c2, c3⟩, hn⟩ := hr.at_.ok.at_ _ _ was
        obtain ⟨k1, s1, l1, g1, w1, n1, p1⟩ := still_cells (xs := arr.toList) hr.at_.ok e1 (by rw [Array.length_toList]; exact c2) (fun j v y hj hy => (c3 j v y hj (by simpa using hy)).1)
        have hd1 : k1.lo[t]? = some (g, cs) := by rw [l1]; exact hd
        have was1 : k1.ob (.l t) = some (.cells cs false) := by simp [Ctx.ob, hd1]; omega
        obtain ⟨⟨arr1, ty1, d1, d2, d3⟩, hn1⟩ := s1.ok.at_ _ _ was1
        have hpl : k1.pl (.l t) = k.pl (.l t) := by
          have hv : VR k (.loc t g 0) (.pointer (some ⟨k.pl (.l t), 0, none⟩)) := .atom ⟨⟨_, _, rfl⟩, g, cs, hd, hpos, Nat.le_refl _, fun _ => rfl⟩
          have h1 := hv.ext s1.ext
          have h2 : k1.I (.loc t g 0) (.pointer (some ⟨k.pl (.l t), 0, none⟩)) := by
            cases h1 with
            | pure h => cases h
            | atom h => exact h
          obtain ⟨_, g', cs2, e1, e2, e3, e4⟩ := h2
          rw [hd1] at e1; simp only [Option.some.injEq, Prod.mk.injEq] at e1; obtain ⟨rfl, rfl⟩ := e1
          have := e4 rfl
          simp only [Value.pointer.injEq, Option.some.injEq, Addr.mk.injEq, and_true] at this
          exact this.symm
        have harr : arr1 = arr := by
          rw [hpl, w1, c1] at d1
          simp only [Option.some.injEq, Go.Obj.cells.injEq] at d1
          exact d1.1.symm
        subst harr
        have hput := put_loc (cs' := cs') s1.ok hd1 hpos arr1
        have hsame := setRow_same d1
        have st2 : Step k1 { k1 with lo := k1.lo.set t (g, cs'), w := k1.w.setRow (k1.pl (.l t)) arr1 } := by
          refine ⟨hput.ext rfl rfl rfl, hput.keep ⟨⟨arr1, ty1, setRow_heap _ _ _ _ _ _ d1, by rw [d2, n1], fun j v y hj hy => ?_⟩, fun _ => hn1 rfl⟩⟩
          have hlt : j < cs.length := by
            have := (List.getElem?_eq_some_iff.1 hj).1
            omega
          exact ⟨.pure ((p1 j v y hj (by simpa using hy)).mono hput.C), (d3 j cs[j] y (List.getElem?_eq_getElem hlt) hy).2⟩
        refine ⟨rfl, _, s1.trans st2, ?_, ⟨⟨st2.ok, ?_, g1⟩, (hr.fr.ext s1.ext).ext st2.ext, hr.defers⟩⟩
        · show k1.w.setRow _ _ = _
          rw [hsame, w1]
        · show k1.lo.set t (g, cs') = _
          rw [l1, hr.at_.lo]
      · cases he
  · cases he
theorem wrap_meets {k : Ctx} {s : St} {Q : Exit → Act → World → Prop} {n : Nat} : ∀ (gs : List Nat) (c : LCode) (e : Ex) (s1 : St), evalCode cf ev n (wrapF gs c) s = some (e, s1) → Meets k e s1 Q → ∃ e2 s2, evalCode cf ev n c s = some (e2, s2) ∧ Meets k e2 s2 Q
  | [], c, e, s1, he, hm => ⟨e, s1, he, hm⟩
  | t :: gs, c, e, s1, he, hm => by
    obtain ⟨e2, s2, h2, hm2⟩ := wrap_meets gs (.seq c (.frz t)) e s1 he hm
    have h2' : (match evalCode cf ev n c s with
      | some (.normal, s') => evalCode cf ev n (.frz t) s'
      | e => e) = some (e2, s2) := h2
    cases h3 : evalCode cf ev n c s with
    | none => rw [h3] at h2'; cases h2'
    | some p =>
      obtain ⟨e3, s3⟩ := p
      rw [h3] at h2'
      refine ⟨e3, s3, rfl, ?_⟩
      cases e3 with
      | normal =>
        intro k' a' st hr
        obtain ⟨rfl, k2, st2, w2, hr2⟩ := frz_step hr h2'
        have := hm2 k2 a' (st.trans st2) hr2
        simp only at this
        rw [w2] at this
        exact this
      | exit id => simp only [Option.some.injEq, Prod.mk.injEq] at h2'; obtain ⟨rfl, rfl⟩ := h2'; exact hm2
      | ret => simp only [Option.some.injEq, Prod.mk.injEq] at h2'; obtain ⟨rfl, rfl⟩ := h2'; exact hm2
      | panic v => simp only [Option.some.injEq, Prod.mk.injEq] at h2'; obtain ⟨rfl, rfl⟩ := h2'; exact hm2
theorem code_wp {gh : Nat → List Nat} (hev : CallSound P G ev) (n : Nat) : ∀ (c : Code) (lc : LCode) (k : Ctx) (s s1 : St) (a : Act) (e : Ex) (Q : Exit → Act → World → Prop), codeOf P G fz esc gh c = some lc → GR G k → Rel k s a →
    evalCode cf ev n lc s = some (e, s1) → Meets k e s1 Q → c.wp P Q a k.w := by
  intro c
  induction c with
  | skip =>
    intro lc k s s1 a e Q hc hG hr he hm
    simp only [codeOf, Option.some.injEq] at hc; subst hc
    simp only [evalCode, Option.some.injEq, Prod.mk.injEq] at he
    obtain ⟨rfl, rfl⟩ := he
    exact wp_skip (hm k a (.refl hr.at_.ok) hr)
  | region id ops draw =>
    intro lc k s s1 a e Q hc hG hr he hm
    exact region_wp hev hc hG hr he hm
  | seq x y ihx ihy =>
    intro lc k s s1 a e Q hc hG hr he hm
    simp only [codeOf] at hc
    split at hc
    · rename_i lx ly hx hy
      simp only [Option.some.injEq] at hc; subst hc
      simp only [evalCode] at he
      cases h1 : evalCode cf ev n lx s with
      | none => rw [h1] at he; cases he
      | some p =>
        obtain ⟨e1, s2⟩ := p
        rw [h1] at he
        refine wp_seq (ihx lx k s s2 a e1 _ hx hG hr h1 ?_)
        cases e1 with
        | normal =>
          intro k' a' st hrel
          exact ihy ly k' s2 s1 a' e Q hy (hG.ext st.ext) hrel he (hm.step st)
        | exit id =>
          simp only [Option.some.injEq, Prod.mk.injEq] at he
          obtain ⟨rfl, rfl⟩ := he
          exact then_other (by intro h; cases h) hm
        | ret =>
          simp only [Option.some.injEq, Prod.mk.injEq] at he
          obtain ⟨rfl, rfl⟩ := he
          exact then_other (by intro h; cases h) hm
        | panic v =>
          simp only [Option.some.injEq, Prod.mk.injEq] at he
          obtain ⟨rfl, rfl⟩ := he
          exact then_other (by intro h; cases h) hm
    · cases hc
  | cond x y z ihy ihz =>
    intro lc k s s1 a e Q hc hG hr he hm
    simp only [codeOf] at hc
    split at hc
    · rename_i lx ly lz hx hy hz
      simp only [Option.some.injEq] at hc; subst hc
      simp only [evalCode] at he
      have hv := eval_rel hG hr.fr hx
      split at he
      · rename_i h1
        rw [h1] at hv
        exact wp_cond_true (bool_inv hv) (ihy ly k s s1 a e Q hy hG hr he hm)
      · rename_i h1
        rw [h1] at hv
        exact wp_cond_false (bool_inv hv) (ihz lz k s s1 a e Q hz hG hr he hm)
      · cases he
    · cases hc
  | block id x ih =>
    intro lc k s s1 a e Q hc hG hr he hm
    simp only [codeOf] at hc
    split at hc
    · rename_i lx hx
      simp only [Option.some.injEq] at hc; subst hc
      obtain ⟨e, s1, he, hm⟩ := wrap_meets _ _ e s1 he hm
      simp only [evalCode] at he
      cases h1 : evalCode cf ev n lx s with
      | none => rw [h1] at he; cases he
      | some p =>
        obtain ⟨e1, s2⟩ := p
        rw [h1] at he
        refine wp_block (ih lx k s s2 a e1 _ hx hG hr h1 ?_)
        intro k' a' st hrel
        cases e1 with
        | normal =>
          simp only [Option.some.injEq, Prod.mk.injEq] at he
          obtain ⟨rfl, rfl⟩ := he
          exact hm k' a' st hrel
        | exit id' =>
          simp only at he
          simp only [Exit.inBlock]
          cases hb : Nat.beq id' id with
          | true =>
            rw [hb] at he
            simp only [cond_true, Option.some.injEq, Prod.mk.injEq] at he
            obtain ⟨rfl, rfl⟩ := he
            rw [if_pos (beq_nat hb)]
            exact hm k' a' st hrel
          | false =>
            rw [hb] at he
            simp only [cond_false, Option.some.injEq, Prod.mk.injEq] at he
            obtain ⟨rfl, rfl⟩ := he
            rw [if_neg (fun e => by subst e; simp at hb)]
            exact hm k' a' st hrel
        | ret =>
          simp only [Option.some.injEq, Prod.mk.injEq] at he
          obtain ⟨rfl, rfl⟩ := he
          exact hm k' a' st hrel
        | panic v =>
          simp only [Option.some.injEq, Prod.mk.injEq] at he
          obtain ⟨rfl, rfl⟩ := he
          exact hm k' a' st hrel
    · cases hc
  | loop x ih =>
    intro lc k s s1 a e Q hc hG hr he hm
    simp only [codeOf] at hc
    split at hc
    · rename_i lx hx
      simp only [Option.some.injEq] at hc; subst hc
      simp only [evalCode] at he
      refine wp_loop_rounds n ?_
      have key : ∀ (m : Nat) (k : Ctx) (s : St) (a : Act), GR G k → Rel k s a → iter (evalCode cf ev n lx) m s = some (e, s1) → Meets k e s1 Q → Code.rounds P x Q m a k.w := by
        intro m
        induction m with
        | zero => intro k s a hG hr he hm; cases he
        | succ m ihm =>
          intro k s a hG hr he hm
          simp only [iter] at he
          cases h1 : evalCode cf ev n lx s with
          | none => rw [h1] at he; cases he
          | some p =>
            obtain ⟨e1, s2⟩ := p
            rw [h1] at he
            refine ih lx k s s2 a e1 _ hx hG hr h1 ?_
            cases e1 with
            | normal =>
              intro k' a' st hrel
              exact ihm k' s2 a' (hG.ext st.ext) hrel he (hm.step st)
            | exit id =>
              simp only [Option.some.injEq, Prod.mk.injEq] at he
              obtain ⟨rfl, rfl⟩ := he
              exact then_other (by intro h; cases h) hm
            | ret =>
              simp only [Option.some.injEq, Prod.mk.injEq] at he
              obtain ⟨rfl, rfl⟩ := he
              exact then_other (by intro h; cases h) hm
            | panic v =>
              simp only [Option.some.injEq, Prod.mk.injEq] at he
              obtain ⟨rfl, rfl⟩ := he
              exact then_other (by intro h; cases h) hm
      exact key n k s a hG hr he hm
    · cases hc
  | exit id =>
    intro lc k s s1 a e Q hc hG hr he hm
    simp only [codeOf, Option.some.injEq] at hc; subst hc
    simp only [evalCode, Option.some.injEq, Prod.mk.injEq] at he
    obtain ⟨rfl, rfl⟩ := he
    exact wp_exit (hm k a (.refl hr.at_.ok) hr)
  | ret =>
    intro lc k s s1 a e Q hc hG hr he hm
    simp only [codeOf, Option.some.injEq] at hc; subst hc
    simp only [evalCode, Option.some.injEq, Prod.mk.injEq] at he
    obtain ⟨rfl, rfl⟩ := he
    exact wp_ret (hm k a (.refl hr.at_.ok) hr)
  | _ =>
    intros
    rename_i hc _ _ _ _
    simp only [codeOf] at hc
    cases hc
end
end Go.Proofs.YthpggdlhoegndaaDoor.LM
