/-
  RUNS OF OPERATIONS: in the order in which they stand.
-/
import Derived.Test.YthpggdlhoegndaaDoorLm24
import Derived.LoopN
set_option linter.all false
namespace Go.Proofs.YthpggdlhoegndaaDoor.LM
open Go

theorem exec1_fr {x : Act1} {s s' : St} {out : Out} (he : exec1 x s = some (out, s')) : s'.fr = s.fr := by
  cases x with
  | pure r => rw [(exec_pure he).2]
  | locR t f => obtain ⟨_, _, _, rfl⟩ := exec_locR he; rfl
  | locW t f => obtain ⟨_, _, _, _, rfl⟩ := exec_locW he; rfl
  | obR i f => obtain ⟨_, _, _, rfl⟩ := exec_obR he; rfl
  | obs vs f =>
    simp only [exec1] at he
    split at he
    · simp only [Option.some.injEq, Prod.mk.injEq] at he; rw [← he.2]
    · cases he
  | hpR f => rw [(exec_hpR he).2]
  | hpW f => obtain ⟨_, _, rfl⟩ := exec_hpW he; rfl

section
variable {P : Program} {G : Nat → Option (List V)} {fz esc : Nat → Bool} {k : Ctx} {cf : Cfg} {ev : Ev} {s s' : St} {out : Out} {a : Act}

/-- the machine's state and the logical one -/
structure Rel (k : Ctx) (s : St) (a : Act) : Prop where
  at_ : At k s
  fr : FR k s.fr a.tmps
  defers : a.defers = []

theorem Tr.get_set_same : ∀ (d : Nat) (t : Tr) (i : Nat) (x : V), i + 1 < 2 ^ d → (Tr.set d t i x).get i = x
  | 0, t, i, x, h => by simp at h
  | d + 1, t, i, x, h => by
    have hl : Nat.beq (Nat.mod i 2) 1 = true → Nat.div i 2 + 1 < 2 ^ d := fun hb => by
      have h1 : i % 2 = 1 := beq_nat hb
      have h2 : Nat.div i 2 = i / 2 := rfl
      rw [h2]; rw [Nat.pow_succ] at h; omega
    have hr : Nat.beq i 0 = false → Nat.beq (Nat.mod i 2) 1 = false → Nat.div i 2 - 1 + 1 < 2 ^ d := fun h0 hb => by
      have h2 : Nat.div i 2 = i / 2 := rfl
      have h3 : i ≠ 0 := fun e => by subst e; cases h0
      have h4 : i % 2 ≠ 1 := fun e => by
        have : Nat.mod i 2 = 1 := e
        rw [this] at hb; cases hb
      rw [h2]; rw [Nat.pow_succ] at h; omega
    cases t with
    | e =>
      cases h0 : Nat.beq i 0 with
      | true => simp only [Tr.set, h0, cond_true, Tr.get]
      | false => cases h1 : Nat.beq (Nat.mod i 2) 1 with
        | true => simp only [Tr.set, h0, h1, cond_true, cond_false, Tr.get]; exact Tr.get_set_same d _ _ x (hl h1)
        | false => simp only [Tr.set, h0, h1, cond_false, Tr.get]; exact Tr.get_set_same d _ _ x (hr h0 h1)
    | n v l r =>
      cases h0 : Nat.beq i 0 with
      | true => simp only [Tr.set, h0, cond_true, Tr.get]
      | false => cases h1 : Nat.beq (Nat.mod i 2) 1 with
        | true => simp only [Tr.set, h0, h1, cond_true, cond_false, Tr.get]; exact Tr.get_set_same d _ _ x (hl h1)
        | false => simp only [Tr.set, h0, h1, cond_false, Tr.get]; exact Tr.get_set_same d _ _ x (hr h0 h1)
theorem tr_node (t : Tr) : ∃ v l r, (∀ d i x, Tr.set (d + 1) t i x = Tr.set (d + 1) (.n v l r) i x) ∧ ∀ i, t.get i = (Tr.n v l r).get i := by
  cases t with
  | n v l r => exact ⟨v, l, r, fun _ _ _ => rfl, fun _ => rfl⟩
  | e =>
    refine ⟨.undef, .e, .e, fun d i x => ?_, fun i => ?_⟩
    · simp only [Tr.set]
    · cases h0 : Nat.beq i 0 <;> cases h1 : Nat.beq (Nat.mod i 2) 1 <;> simp only [Tr.get, h0, h1, cond_true, cond_false]
theorem idx_ne {i j : Nat} (h : i ≠ j) (hi : Nat.beq i 0 = false) (hj : Nat.beq j 0 = false) (hm : Nat.beq (Nat.mod i 2) 1 = Nat.beq (Nat.mod j 2) 1) :
    Nat.div i 2 ≠ Nat.div j 2 := by
  have e1 : Nat.div i 2 = i / 2 := rfl
  have e2 : Nat.div j 2 = j / 2 := rfl
  have e3 : Nat.mod i 2 = i % 2 := rfl
  have e4 : Nat.mod j 2 = j % 2 := rfl
  rw [e1, e2]
  rw [e3, e4] at hm
  have : i % 2 = j % 2 := by
    rcases Nat.mod_two_eq_zero_or_one i with a | a <;> rcases Nat.mod_two_eq_zero_or_one j with b | b <;> rw [a, b] at hm ⊢ <;> cases hm
  omega
theorem beq_zero_false {i : Nat} (h : Nat.beq i 0 = false) : i ≠ 0 := fun e => by subst e; cases h
theorem Tr.get_set_other : ∀ (d : Nat) (t : Tr) (i j : Nat) (x : V), i ≠ j → (Tr.set d t i x).get j = t.get j
  | 0, t, i, j, x, h => rfl
  | d + 1, t, i, j, x, h => by
    obtain ⟨v, l, r, hs, hg⟩ := tr_node t
    rw [hs, hg]
    cases h0 : Nat.beq i 0 with
    | true =>
      have hj : Nat.beq j 0 = false := by rw [Bool.eq_false_iff]; intro hb; exact h ((beq_nat h0).trans (beq_nat hb).symm)
      simp only [Tr.set, h0, cond_true, Tr.get, hj, cond_false]
    | false =>
      cases hj : Nat.beq j 0 with
      | true => cases h1 : Nat.beq (Nat.mod i 2) 1 <;> simp only [Tr.set, h0, h1, cond_true, cond_false, Tr.get, hj]
      | false =>
        cases h1 : Nat.beq (Nat.mod i 2) 1 <;> cases h2 : Nat.beq (Nat.mod j 2) 1 <;> simp only [Tr.set, h0, h1, cond_true, cond_false, Tr.get, hj, h2]
        · refine Tr.get_set_other d r _ _ x ?_
          have hne := idx_ne h h0 hj (by rw [h1, h2])
          have z1 := beq_zero_false h0
          have z2 := beq_zero_false hj
          have e3 : Nat.mod i 2 = i % 2 := rfl
          have e4 : Nat.mod j 2 = j % 2 := rfl
          have e1 : Nat.div i 2 = i / 2 := rfl
          have e2 : Nat.div j 2 = j / 2 := rfl
          have m1 : i % 2 ≠ 1 := fun e => by rw [e3, e] at h1; cases h1
          have m2 : j % 2 ≠ 1 := fun e => by rw [e4, e] at h2; cases h2
          rw [e1, e2] at hne ⊢
          omega
        · exact Tr.get_set_other d l _ _ x (idx_ne h h0 hj (by rw [h1, h2]))
theorem Fr.get_set_same {f : Fr} {i : Nat} {v : V} (h : i < f.n) (hn : f.n ≤ 4095) : (f.set i v).get i = v := by
  have hb : Nat.blt i f.n = true := by rw [Nat.blt_eq]; exact h
  simp only [Fr.set, hb, cond_true, Fr.get]
  exact Tr.get_set_same 12 _ _ _ (by omega)
theorem Fr.get_set_other {f : Fr} {i j : Nat} {v : V} (h : i ≠ j) : (f.set i v).get j = f.get j := by
  cases hb : Nat.blt i f.n with
  | true => simp only [Fr.set, hb, cond_true, Fr.get, Tr.get_set_other 12 _ _ _ _ h]
  | false => simp only [Fr.set, hb, cond_false]
theorem Fr.n_set (f : Fr) (i : Nat) (v : V) : (f.set i v).n = f.n := by
  unfold Fr.set; cases Nat.blt i f.n <;> rfl
theorem fr_set {fr : Fr} {tmps : Array Value} {v : V} {x : Value} (h : FR k fr tmps) (hv : VR k v x) (d : Nat) : FR k (fr.set d v) (tmps.setIfInBounds d x) := by
  refine ⟨⟨by rw [Fr.n_set]; simp [h.1.1], by rw [Fr.n_set]; exact h.1.2⟩, fun t y hy => ?_⟩
  rw [Array.getElem?_setIfInBounds] at hy
  by_cases e : d = t
  · subst e
    rw [if_pos rfl] at hy
    split at hy
    · rename_i hl
      simp only [Option.some.injEq] at hy
      subst hy
      rw [Fr.get_set_same (by rw [← h.1.1]; exact hl) h.1.2]; exact hv
    · cases hy
  · rw [if_neg e] at hy
    rw [Fr.get_set_other e]; exact h.2 t y hy
theorem fr_put {fr : Fr} {v : V} {x : Value} (h : FR k fr a.tmps) (hv : VR k v x) (d : Option Nat) : FR k (setD fr d v) (a.put d x).tmps := by
  cases d with
  | none => exact h
  | some d => exact fr_set h hv d
theorem put_defers (d : Option Nat) (x : Value) : (a.put d x).defers = a.defers := by cases d <;> rfl
theorem undef_rel : VR k .undef undef := .atom rfl

/-- what a run of the evaluator stands for -/
def Meets (k : Ctx) (e : Ex) (s1 : St) (Q : Exit → Act → World → Prop) : Prop :=
  ∀ k' a', Step k k' → Rel k' s1 a' → match e with
    | .normal => Q .normal a' k'.w
    | .exit id => Q (.exit id) a' k'.w
    | .ret => Q .ret a' k'.w
    | .panic v => ∀ x, VR k' v x → Q (.panic [{ v := x, recovered := false }]) a' k'.w
theorem Meets.step {k1 : Ctx} {e : Ex} {s1 : St} {Q : Exit → Act → World → Prop} (h : Meets k e s1 Q) (st : Step k k1) : Meets k1 e s1 Q :=
  fun k' a' st' hr => h k' a' (st.trans st') hr

theorem wanted_rel (hf : FR k s.fr a.tmps) {ops : Array Oper} {o : Oper} {g : Option (Nat × Bool)}
    (hg : match o.guard with
      | none => g = none
      | some (j, w) => ∃ d, (ops[j]?).bind (·.dst) = some d ∧ g = some (d, w)) : Region.wanted o (yielded ops a.tmps) = wanted s.fr g := by
  unfold Region.wanted
  cases ho : o.guard with
  | none => rw [ho] at hg; subst hg; rfl
  | some p =>
    obtain ⟨j, w⟩ := p
    rw [ho] at hg
    obtain ⟨d, hd, rfl⟩ := hg
    simp only [yielded, hd, Option.bind_some, wanted]
    have key : ∀ (v : V) (x : Value), VR k v x → ((match (some x : Option Value) with | some (.bool b) => some b | _ => none) == some w) = match v with | .bool c => w == c | _ => false := by
      intro v x h
      cases h with
      | pure h => cases h <;> first
          | rfl
          | (rename_i b; cases b <;> cases w <;> rfl)
      | atom h =>
        cases v <;> first
          | exact h.elim
          | (obtain ⟨⟨_, _, rfl⟩, _⟩ := h; rfl)
          | (obtain ⟨⟨_, rfl⟩, _⟩ := h; rfl)
          | (have h' : x = undef := h; subst h'; rfl)
      | func => rfl
      | iface => rfl
      | agg => rfl
      | tuple => rfl
    by_cases hlt : d < a.tmps.size
    · have e2 : a.tmps[d]? = some a.tmps[d] := by simp [hlt]
      rw [e2]
      exact key _ _ (hf.2 d _ e2)
    · have e1 : s.fr.get d = .undef := by
        have : Nat.blt d s.fr.n = false := by
          rw [Bool.eq_false_iff]; intro hb
          rw [Nat.blt_eq] at hb
          exact hlt (by rw [hf.1.1]; exact hb)
        simp only [Fr.get, this, cond_false]
      have e2 : a.tmps[d]? = none := Array.getElem?_eq_none (Nat.le_of_not_lt hlt)
      rw [e1, e2]; rfl

def OneQ (k' : Ctx) (e : Ex) (a' : Act) (next : Act → World → Prop) (Q : Exit → Act → World → Prop) : Prop :=
  match e with
  | .normal => next a' k'.w
  | .panic v => ∀ x, VR k' v x → Q (.panic [{ v := x, recovered := false }]) a' k'.w
  | _ => True
theorem did_upon {o : Oper} {res : Result Next} {next : Act → World → Prop} {Q : Exit → Act → World → Prop} (hr : Rel k s a) (hfr : s'.fr = s.fr) (h : Did P k s' out res)
    (hn : ∀ e s1, putOut o.dst out s' = (e, s1) → ∀ k' a', Step k k' → Rel k' s1 a' → OneQ k' e a' next Q) : o.upon P a next Q res := by
  have at_of : ∀ {k' : Ctx}, Post s' k k' → At k' s' := fun h => ⟨h.ok, h.lo, h.h⟩
  have fr_of : ∀ {k' : Ctx}, Post s' k k' → FR k' s'.fr a.tmps := fun h => by rw [hfr]; exact hr.fr.ext h.ext
  have val : ∀ {v : V} {x : Value} {k' : Ctx}, out = .val v → Post s' k k' → VR k' v x → next (a.put o.dst x) k'.w := by
    intro v x k' ho hp hv
    subst ho
    exact hn _ _ rfl k' (a.put o.dst x) ⟨hp.ext, hp.ok⟩ ⟨⟨hp.ok, hp.lo, hp.h⟩, fr_put (fr_of hp) hv o.dst, by rw [put_defers]; exact hr.defers⟩
  have pan : ∀ {v : V} {x : Value} {k' : Ctx}, out = .panic v → Post s' k k' → VR k' v x → Q (.panic [{ v := x, recovered := false }]) a k'.w := by
    intro v x k' ho hp hv
    subst ho
    exact hn _ _ rfl k' a ⟨hp.ext, hp.ok⟩ ⟨at_of hp, fr_of hp, hr.defers⟩ x hv
  cases h with
  | val hp hv => exact val rfl hp hv
  | skip hp => exact hn _ _ rfl _ (a.put o.dst undef) ⟨hp.ext, hp.ok⟩ ⟨⟨hp.ok, hp.lo, hp.h⟩, fr_put (fr_of hp) undef_rel o.dst, by rw [put_defers]; exact hr.defers⟩
  | panic hp hv => exact pan rfl hp hv
  | enter h =>
    rw [Oper.upon_enter]
    refine h.mono ?_
    rintro e w' ⟨k', hp, rfl, hm⟩
    cases out with
    | val v => obtain ⟨x, rfl, hv⟩ := hm; exact val rfl hp hv
    | panic v => obtain ⟨x, rfl, hv⟩ := hm; exact pan rfl hp hv
    | skip => exact hm.elim

/-- an operation and what it was compiled to -/
structure OperOK (P : Program) (G : Nat → Option (List V)) (ops : Array Oper) (fz esc : Nat → Bool) (tl : List Nat) (o : Oper) (lo : LOper) : Prop where
  dst : lo.dst = o.dst
  op : ∃ xs0, opOf P fz esc tl o = some (lo.op, xs0) ∧ ofXs G xs0 = some lo.xs
  guard : match o.guard with
      | none => lo.guard = none
      | some (j, w) => ∃ d, (ops[j]?).bind (·.dst) = some d ∧ lo.guard = some (d, w)
theorem operOf_ok {ops : Array Oper} {o : Oper} {lo : LOper} (h : operOf P G fz esc ops o = some lo) : OperOK P G ops fz esc (turned P ops) o lo := by
  unfold operOf at h
  simp only [Option.bind_eq_bind, Option.bind_eq_some_iff] at h
  obtain ⟨⟨op, xs0⟩, h1, xs, h2, h4⟩ := h
  cases hg : o.guard with
  | none =>
    rw [hg] at h4
    simp only [Option.bind_some, Option.some.injEq] at h4
    subst h4
    exact ⟨rfl, ⟨xs0, h1, h2⟩, by rw [hg]⟩
  | some p =>
    obtain ⟨j, w⟩ := p
    rw [hg] at h4
    simp only [Option.bind_eq_some_iff] at h4
    obtain ⟨g, h3, h4⟩ := h4
    simp only [Option.some.injEq] at h4
    subst h4
    split at h3
    · rename_i d hd
      simp only [Option.some.injEq] at h3
      exact ⟨rfl, ⟨xs0, h1, h2⟩, by rw [hg]; exact ⟨d, hd, h3.symm⟩⟩
    · cases h3

theorem one_wp {ops : Array Oper} {tl : List Nat} {o : Oper} {lo : LOper} {e : Ex} {s1 : St} {next : Act → World → Prop} {Q : Exit → Act → World → Prop} (hev : CallSound P G ev) (hG : GR G k) (hr : Rel k s a) (ho : OperOK P G ops fz esc tl o lo)
    (he : oneOp cf ev lo s = some (e, s1))
    (hn : ∀ k' a', Step k k' → Rel k' s1 a' → OneQ k' e a' next Q) :
    if Region.wanted o (yielded ops a.tmps) then o.wp P a k.w next Q ∨ (o.asks P a k.w ∧ LetsOut Q) else next (a.put o.dst undef) k.w := by
  rw [wanted_rel hr.fr ho.guard]
  unfold oneOp at he
  cases hw : wanted s.fr lo.guard with
  | false =>
    rw [hw] at he
    simp only [cond_false, Option.some.injEq, Prod.mk.injEq] at he
    obtain ⟨rfl, rfl⟩ := he
    simp only [Bool.false_eq_true, if_false]
    refine hn k (a.put o.dst undef) (.refl hr.at_.ok) ⟨⟨hr.at_.ok, hr.at_.lo, hr.at_.h⟩, ?_, by rw [put_defers]; exact hr.defers⟩
    show FR k (setD s.fr lo.dst .undef) _
    rw [ho.dst]
    exact fr_put hr.fr undef_rel o.dst
  | true =>
    rw [hw] at he
    simp only [cond_true] at he
    split at he
    · rename_i r s2 h2
      simp only [Option.some.injEq] at he
      simp only [if_true]
      left
      obtain ⟨xs0, h3, h4⟩ := ho.op
      rw [ho.dst] at h2
      have hd := op_did (cf := cf) hev hr.at_ hG hr.fr h3 lo.xs r s2 h4 h2
      refine did_upon hr (exec1_fr h2) hd (fun e' s1' hp k' a' st hrel => ?_)
      rw [← ho.dst, he] at hp
      simp only [Prod.mk.injEq] at hp
      obtain ⟨rfl, rfl⟩ := hp
      exact hn k' a' st hrel
    · cases he

/-- a list of operations, as the evaluator runs them -/
theorem runOps_wp {ops : Array Oper} {tl : List Nat} {Q : Exit → Act → World → Prop} (hev : CallSound P G ev) : ∀ (l : List Nat) (los : List LOper) (k : Ctx) (s : St) (a : Act) (e : Ex) (s1 : St), GR G k → Rel k s a → l.length = los.length →
    (∀ (n i : Nat) (lo : LOper), l[n]? = some i → los[n]? = some lo → ∃ o, ops[i]? = some o ∧ OperOK P G ops fz esc tl o lo) → runOps cf ev los s = some (e, s1) → Meets k e s1 Q → wpOps P ops Q l a k.w
  | [], los, k, s, a, e, s1, hG, hr, hl, hops, he, hm => by
    have : los = [] := List.eq_nil_of_length_eq_zero (by simpa using hl.symm)
    subst this
    simp only [runOps, Option.some.injEq, Prod.mk.injEq] at he
    obtain ⟨rfl, rfl⟩ := he
    exact hm k a (.refl hr.at_.ok) hr
  | i :: l, [], k, s, a, e, s1, hG, hr, hl, hops, he, hm => by simp at hl
  | i :: l, lo :: los, k, s, a, e, s1, hG, hr, hl, hops, he, hm => by
    obtain ⟨o, hoi, ho⟩ := hops 0 i lo rfl rfl
    simp only [wpOps, hoi]
    simp only [runOps] at he
    cases h1 : oneOp cf ev lo s with
    | none => rw [h1] at he; cases he
    | some p =>
      obtain ⟨e1, s2⟩ := p
      rw [h1] at he
      refine one_wp (cf := cf) hev hG hr ho h1 (fun k' a' st hrel => ?_)
      cases e1 with
      | normal =>
        exact runOps_wp hev l los k' s2 a' e s1 (hG.ext st.ext) hrel (by simpa using hl) (fun n i lo a b => hops (n + 1) i lo (by simpa using a) (by simpa using b)) he (hm.step st)
      | panic v =>
        simp only [Option.some.injEq, Prod.mk.injEq] at he
        obtain ⟨rfl, rfl⟩ := he
        exact fun x hx => hm k' a' st hrel x hx
      | exit id => trivial
      | ret => trivial
end
end Go.Proofs.YthpggdlhoegndaaDoor.LM
