/-
  A REGION THAT DRAWS ITS ORDER: whatever order is drawn, it leaves what the text's order leaves.
-/
import Derived.Test.YthpggdlhoegndaaDoorLm26
set_option linter.all false
namespace Go.Proofs.YthpggdlhoegndaaDoor.LM
open Go

theorem plan_calm {cf : Cfg} {ev : Ev} {d : Option Nat} {op : LOp} {vs : List V} {h : HS} (hc : op.calm = true) : (plan cf ev d op vs).acc h = .none := by
  have ok : ∀ v, (ok1 v).acc h = .none := fun v => rfl
  have bf : ∀ (c : Bool) (x : Act1), x.acc h = .none → (bif c then x else fail).acc h = .none := by intro c x hx; cases c <;> first | exact hx | rfl
  cases op <;> first
    | (cases hc; done)
    | skip
  all_goals simp only [plan]
  all_goals first
    | unfold plan_mv
    | unfold plan_pick
    | unfold plan_build
    | unfold plan_nilck
    | unfold plan_bin
    | unfold plan_eqb
    | unfold plan_eqa
    | unfold plan_eqs
    | unfold plan_un
    | unfold plan_mki
    | unfold plan_mkf
    | unfold plan_sstr
    | unfold plan_fld
    | unfold plan_fad
    | unfold plan_iadA
    | unfold plan_idxS
    | unfold plan_idxA
    | unfold plan_ext
    | unfold plan_minmax
    | unfold plan_conv
  all_goals
    split <;> first
      | rfl
      | exact ok _
      | exact bf _ _ (ok _)
      | (cases hc; done)
      | (refine bf _ _ ?_; split <;> first | rfl | exact ok _)
      | skip

section
variable {cf : Cfg} {ev : Ev}

structure El where
  j : Nat
  o : LOper
  A : Acc
def Runs (cf : Cfg) (ev : Ev) : List El → St → St → Prop
  | [], s, s' => s = s'
  | x :: r, s, s' => accOf cf ev x.o s = x.A ∧ ∃ s1, oneOp cf ev x.o s = some (.normal, s1) ∧ Runs cf ev r s1 s'
def mkEl : Nat → List LOper → List Acc → List El
  | n, o :: os, b :: bs => ⟨n, o, b⟩ :: mkEl (n + 1) os bs
  | _, _, _ => []
theorem runs_of_draw : ∀ (ops : List LOper) (as : List Acc) (s : St) (e : Ex) (s' : St) (n : Nat), runDraw cf ev ops as s = some (e, s') → e = .normal ∧
    ∃ bs : List Acc, bs.length = ops.length ∧ Runs cf ev (mkEl n ops bs) s s' ∧ ∀ (m : Nat) (o : LOper), ops[m]? = some o → ∀ i ∈ o.un, Acc.ok ((as ++ bs.take m).getD i .hpW) (bs.getD m .none) = true
  | [], as, s, e, s', n, h => by
    simp only [runDraw, Option.some.injEq, Prod.mk.injEq] at h
    exact ⟨h.1.symm, [], rfl, h.2, fun m o hm => by simp at hm⟩
  | o :: ops, as, s, e, s', n, h => by
    simp only [runDraw] at h
    obtain ⟨hun, h⟩ := bif_yes h
    split at h
    · rename_i s1 h1
      obtain ⟨he, bs, hl, hr, hp⟩ := runs_of_draw ops (as ++ [accOf cf ev o s]) s1 e s' (n + 1) h
      refine ⟨he, accOf cf ev o s :: bs, by simp [hl], ⟨rfl, s1, h1, hr⟩, fun m o' hm i hi => ?_⟩
      cases m with
      | zero =>
        simp only [List.getElem?_cons_zero, Option.some.injEq] at hm
        subst hm
        have := List.all_eq_true.1 hun i hi
        simpa using this
      | succ m =>
        have := hp m o' (by simpa using hm) i hi
        simpa using this
    · cases h

theorem bubble : ∀ (r1 : List El) (x : El) (r2 : List El) (s sf : St), Runs cf ev (r1 ++ x :: r2) s sf → (∀ y ∈ r1, apartTmps y.o x.o = true ∧ Acc.ok y.A x.A = true) → Runs cf ev (x :: (r1 ++ r2)) s sf
  | [], x, r2, s, sf, h, _ => h
  | y :: r1, x, r2, s, sf, h, hy => by
    obtain ⟨ha, s1, h1, hr⟩ := h
    obtain ⟨hb, s2, h2, hr2⟩ := bubble r1 x r2 s1 sf hr (fun z hz => hy z (List.mem_cons_of_mem _ hz))
    obtain ⟨q1, q2⟩ := hy y List.mem_cons_self
    obtain ⟨t, t1, t2, t3, t4⟩ := op_swap ha h1 hb h2 q1 q2
    exact ⟨t1, t, t2, t3, s2, t4, hr2⟩

/-! ### what stands ahead -/
def bf (ops : Array Oper) (i m : Nat) : Bool := ((Region.before ops).getD i 0).testBit m
theorem or_fold {acc : Array Nat} {m : Nat} : ∀ (l : List Edge) (s : Nat), (l.foldl (fun s e => if Region.binds .any e then s ||| 2 ^ e.on ||| acc.getD e.on 0 else s) s).testBit m = true →
    s.testBit m = true ∨ ∃ e ∈ l, Region.binds .any e = true ∧ (m = e.on ∨ (acc.getD e.on 0).testBit m = true)
  | [], s, h => .inl h
  | e :: l, s, h => by
    simp only [List.foldl_cons] at h
    rcases or_fold l _ h with h1 | ⟨e', he, hb, hm⟩
    · split at h1
      · rename_i hb
        rw [Nat.testBit_or, Nat.testBit_or, Nat.testBit_two_pow, Bool.or_eq_true, Bool.or_eq_true, decide_eq_true_eq] at h1
        rcases h1 with (h1 | h1) | h1
        · exact .inl h1
        · exact .inr ⟨e, List.mem_cons_self, hb, .inl h1.symm⟩
        · exact .inr ⟨e, List.mem_cons_self, hb, .inr h1⟩
      · exact .inl h1
    · exact .inr ⟨e', List.mem_cons_of_mem _ he, hb, hm⟩
theorem fold_push {α : Type} (val : Array Nat → α → Nat) : ∀ (l : List α) (acc : Array Nat), (l.foldl (fun acc o => acc.push (val acc o)) acc).size = acc.size + l.length ∧
    (∀ i, i < acc.size → (l.foldl (fun acc o => acc.push (val acc o)) acc)[i]? = acc[i]?) ∧
    ∀ n o, l[n]? = some o → ∃ acc' : Array Nat, acc'.size = acc.size + n ∧ (l.foldl (fun acc o => acc.push (val acc o)) acc)[acc.size + n]? = some (val acc' o) ∧ ∀ i, i < acc'.size → (l.foldl (fun acc o => acc.push (val acc o)) acc)[i]? = acc'[i]?
  | [], acc => ⟨by simp, fun i _ => rfl, fun n o h => by simp at h⟩
  | a :: l, acc => by
    obtain ⟨h1, h2, h3⟩ := fold_push val l (acc.push (val acc a))
    simp only [List.foldl_cons]
    refine ⟨by rw [h1]; simp; omega, fun i hi => ?_, fun n o hn => ?_⟩
    · rw [h2 i (by simp; omega), Array.getElem?_push, if_neg (by omega)]
    · cases n with
      | zero =>
        simp only [List.getElem?_cons_zero, Option.some.injEq] at hn
        subst hn
        refine ⟨acc, rfl, ?_, fun i hi => ?_⟩
        · rw [Nat.add_zero, h2 _ (by simp), Array.getElem?_push, if_pos rfl]
        · rw [h2 i (by simp; omega), Array.getElem?_push, if_neg (by omega)]
      | succ n =>
        obtain ⟨acc', a1, a2, a3⟩ := h3 n o (by simpa using hn)
        refine ⟨acc', by rw [a1]; simp; omega, ?_, a3⟩
        have : acc.size + (n + 1) = (acc.push (val acc a)).size + n := by simp; omega
        rw [this]; exact a2
theorem before_spec {ops : Array Oper} {i m : Nat} {o : Oper} (ho : ops[i]? = some o) (hlt : ∀ e ∈ o.after.toList, Region.binds .any e = true → e.on < i) (h : bf ops i m = true) :
    ∃ e ∈ o.after.toList, Region.binds .any e = true ∧ (m = e.on ∨ bf ops e.on m = true) := by
  have hb : Region.before ops = ops.toList.foldl (fun acc o => acc.push (o.after.foldl (fun s e => if Region.binds .any e then s ||| 2 ^ e.on ||| acc.getD e.on 0 else s) 0)) #[] := by
    unfold Region.before
    rw [← Array.foldl_toList]
  obtain ⟨h1, h2, h3⟩ := fold_push (fun acc (o : Oper) => o.after.foldl (fun s e => if Region.binds .any e then s ||| 2 ^ e.on ||| acc.getD e.on 0 else s) 0) ops.toList #[]
  obtain ⟨acc', a1, a2, a3⟩ := h3 i o (by simpa using ho)
  rw [← hb] at a2 a3
  simp only [List.size_toArray, List.length_nil, Nat.zero_add] at a1 a2
  unfold bf at h
  have e1 : (Region.before ops).getD i 0 = o.after.foldl (fun s e => if Region.binds .any e then s ||| 2 ^ e.on ||| acc'.getD e.on 0 else s) 0 := by
    rw [Array.getD_eq_getD_getElem?, a2]; rfl
  rw [e1, ← Array.foldl_toList] at h
  rcases or_fold _ _ h with h4 | ⟨e, he, hbi, hm⟩
  · simp at h4
  · refine ⟨e, he, hbi, hm.imp id (fun hm => ?_)⟩
    have hlt2 := hlt e he hbi
    unfold bf
    rw [Array.getD_eq_getD_getElem?, a3 e.on (by omega), ← Array.getD_eq_getD_getElem?]
    exact hm
end

section
variable {P : Program} {G : Nat → Option (List V)} {fz esc : Nat → Bool} {cf : Cfg} {ev : Ev}

def Free (ops : Array Oper) (x y : El) : Prop := x.j < y.j ∧ (bf ops y.j x.j = false → apartTmps x.o y.o = true ∧ Acc.ok x.A y.A = true)

theorem getD_flip {l : Array Bool} {m : Nat} (h : l.getD m false = true) : l.getD m true = true := by
  rw [Array.getD_eq_getD_getElem?] at h ⊢
  cases h1 : l[m]? with
  | none => rw [h1] at h; cases h
  | some b => rw [h1] at h; exact h
theorem any_sound {ops : Array Oper} {tl : List Nat} {Q : Exit → Act → World → Prop} (hev : CallSound P G ev) (hedge : ∀ (i : Nat) (o : Oper), ops[i]? = some o → ∀ e ∈ o.after.toList, Region.binds .any e = true → e.on < i) :
    ∀ (fuel : Nat) (listed : Array Bool) (rem : List El) (k : Ctx) (s : St) (a : Act) (sf : St), GR G k → Rel k s a → Runs cf ev rem s sf → rem.Pairwise (Free ops) →
    (∀ x ∈ rem, ∃ o, ops[x.j]? = some o ∧ OperOK P G ops fz esc tl o x.o) → (∀ j, j < ops.size → (listed.getD j true = false ↔ ∃ x ∈ rem, x.j = j)) →
    (∀ j, j < ops.size → listed.getD j true = true → ∀ m, bf ops j m = true → listed.getD m false = true) → listed.size = ops.size → rem.length ≤ fuel → Meets k .normal sf Q → wpAny P .any ops Q fuel listed a k.w := by
  intro fuel
  induction fuel with
  | zero =>
    intro listed rem k s a sf hG hr hruns hpw hops hidx hcl hsz hlen hm
    have hnil : rem = [] := List.eq_nil_of_length_eq_zero (by omega)
    subst hnil
    refine ⟨List.eq_nil_iff_forall_not_mem.2 fun j hj => ?_, ?_⟩
    · rw [mem_ready] at hj
      obtain ⟨h0, o, ho, _⟩ := hj
      obtain ⟨x, hx, _⟩ := (hidx j (Array.getElem?_eq_some_iff.1 ho).1).1 h0
      cases hx
    · have : s = sf := hruns
      subst this
      exact hm k a (.refl hr.at_.ok) hr
  | succ fuel ih =>
    intro listed rem k s a sf hG hr hruns hpw hops hidx hcl hsz hlen hm
    have hbefore : ∀ (i : Nat) (o : Oper), ops[i]? = some o → (∀ e ∈ o.after, Region.binds .any e = true → listed.getD e.on false = true) → ∀ m, bf ops i m = true → listed.getD m false = true := by
      intro i o ho hready m hbm
      obtain ⟨e, he, hb, hm⟩ := before_spec ho (hedge i o ho) hbm
      have hon := hready e (by simpa using he) hb
      rcases hm with rfl | hm
      · exact hon
      · have hlt : e.on < ops.size := by
          have := hedge i o ho e he hb
          have := (Array.getElem?_eq_some_iff.1 ho).1
          omega
        exact hcl e.on hlt (getD_flip hon) m hm
    refine ⟨fun hnone => ?_, fun i hi => ?_⟩
    · cases rem with
      | nil =>
        have : s = sf := hruns
        subst this
        exact hm k a (.refl hr.at_.ok) hr
      | cons x rem =>
        exfalso
        obtain ⟨o, ho, _⟩ := hops x List.mem_cons_self
        have hxlt := (Array.getElem?_eq_some_iff.1 ho).1
        have hx0 := (hidx x.j hxlt).2 ⟨x, List.mem_cons_self, rfl⟩
        have : x.j ∈ Region.ready .any ops listed := by
          rw [mem_ready]
          refine ⟨hx0, o, ho, fun e he hb => ?_⟩
          have hlt := hedge x.j o ho e (by simpa using he) hb
          have hsize : e.on < listed.size := by omega
          cases hl : listed.getD e.on true with
          | true =>
            rw [Array.getD_eq_getD_getElem?] at hl ⊢
            rw [Array.getElem?_eq_getElem hsize] at hl ⊢
            exact hl
          | false =>
            obtain ⟨y, hy, hyj⟩ := (hidx e.on (by omega)).1 hl
            rcases List.mem_cons.1 hy with rfl | hy
            · omega
            · have := (List.rel_of_pairwise_cons hpw hy).1
              omega
        rw [hnone] at this; cases this
    · rw [mem_ready] at hi
      obtain ⟨h0, o, ho, hready⟩ := hi
      have hilt := (Array.getElem?_eq_some_iff.1 ho).1
      obtain ⟨x, hx, rfl⟩ := (hidx i hilt).1 h0
      obtain ⟨r1, r2, rfl⟩ := List.append_of_mem hx
      obtain ⟨o', ho', hok⟩ := hops x hx
      rw [ho] at ho'; simp only [Option.some.injEq] at ho'; subst ho'
      have hfree : ∀ y ∈ r1, apartTmps y.o x.o = true ∧ Acc.ok y.A x.A = true := by
        intro y hy
        have hf := (List.pairwise_append.1 hpw).2.2 y hy x List.mem_cons_self
        refine hf.2 ?_
        cases hb : bf ops x.j y.j with
        | false => rfl
        | true =>
          have hl := getD_flip (hbefore x.j o ho hready y.j hb)
          have hylt : y.j < ops.size := by have := hf.1; omega
          have := (hidx y.j hylt).2 ⟨y, List.mem_append_left _ hy, rfl⟩
          rw [hl] at this; cases this
      obtain ⟨ha, s1, h1, hr1⟩ := bubble r1 x r2 s sf hruns hfree
      unfold wpOp
      simp only [ho]
      refine one_wp (cf := cf) hev hG hr hok h1 (fun k' a' st hrel => ?_)
      have hpw2 : (r1 ++ r2).Pairwise (Free ops) := by
        refine hpw.sublist ?_
        exact List.Sublist.append_left (List.sublist_cons_self _ _) _
      have hset : ∀ j, (listed.setIfInBounds x.j true).getD j true = if x.j = j then true else listed.getD j true := by
        intro j
        by_cases e : x.j = j
        · subst e
          rw [if_pos rfl, Array.getD_eq_getD_getElem?, Array.getElem?_setIfInBounds]
          rw [if_pos rfl, if_pos (by omega)]; rfl
        · rw [if_neg e, getD_set_ne true e]
      refine ih (listed.setIfInBounds x.j true) (r1 ++ r2) k' s1 a' sf (hG.ext st.ext) hrel hr1 hpw2 (fun y hy => hops y ?_) (fun j hj => ?_) (fun j hj hlj m hbm => ?_) (by simp [hsz]) (by simp at hlen ⊢; omega) (hm.step st)
      · rcases List.mem_append.1 hy with h | h
        · exact List.mem_append_left _ h
        · exact List.mem_append_right _ (List.mem_cons_of_mem _ h)
      · rw [hset]
        by_cases e : x.j = j
        · rw [if_pos e]
          refine ⟨fun h => (by cases h), fun ⟨y, hy, hyj⟩ => ?_⟩
          exfalso
          rcases List.mem_append.1 hy with h | h
          · have := ((List.pairwise_append.1 hpw).2.2 y h x List.mem_cons_self).1; omega
          · have := (List.rel_of_pairwise_cons (List.pairwise_append.1 hpw).2.1 h).1; omega
        · rw [if_neg e, hidx j hj]
          constructor
          · rintro ⟨y, hy, hyj⟩
            rcases List.mem_append.1 hy with h | h
            · exact ⟨y, List.mem_append_left _ h, hyj⟩
            · rcases List.mem_cons.1 h with rfl | h
              · exact absurd hyj e
              · exact ⟨y, List.mem_append_right _ h, hyj⟩
          · rintro ⟨y, hy, hyj⟩
            rcases List.mem_append.1 hy with h | h
            · exact ⟨y, List.mem_append_left _ h, hyj⟩
            · exact ⟨y, List.mem_append_right _ (List.mem_cons_of_mem _ h), hyj⟩
      · refine getD_set_true ?_
        rw [hset] at hlj
        by_cases e : x.j = j
        · subst e
          exact hbefore x.j o ho hready m hbm
        · rw [if_neg e] at hlj
          exact hcl j hj hlj m hbm
end
end Go.Proofs.YthpggdlhoegndaaDoor.LM
