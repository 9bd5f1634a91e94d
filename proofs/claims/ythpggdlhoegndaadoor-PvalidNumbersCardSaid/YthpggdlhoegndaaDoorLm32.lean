/-
  A LOGIC over the evaluator: states whose temporaries are a function, operations as a function on them, and what a piece of code comes to ('WC').
-/
import Derived.Test.YthpggdlhoegndaaDoorLm31
import Derived.IntWalk
set_option linter.all false
namespace Go.Proofs.YthpggdlhoegndaaDoor.LM
open Go

structure St2 where
  n : Nat
  fr : Nat → V
  lo : Nat → Nat × List V
  hs : HS

def up2 {α : Type} (f : Nat → α) (i : Nat) (v : α) : Nat → α := fun j => bif Nat.beq j i then v else f j
theorem up_same {α : Type} (f : Nat → α) (i : Nat) (v : α) : up2 f i v i = v := by simp [up2]
theorem up_ne {α : Type} (f : Nat → α) {i j : Nat} (v : α) (h : Nat.beq j i = false) : up2 f i v j = f j := by simp [up2, h]
def frOf : List V → Nat → V
  | [], _ => .undef
  | v :: _, 0 => v
  | _ :: r, i + 1 => frOf r i
def lo0 : Nat → Nat × List V := fun _ => (0, [])

def X.ev2 (fr : Nat → V) : X → V
  | .t n => fr n
  | .c v => v
def want2 (fr : Nat → V) : Option (Nat × Bool) → Bool
  | Option.none => true
  | some (t, b) => match fr t with
    | .bool c => b == c
    | _ => false
def put2 (d : Option Nat) (v : V) (s : St2) : Option (Ex × St2) :=
  match d with
  | Option.none => some (.normal, s)
  | some d => bif Nat.blt d s.n then some (.normal, ⟨s.n, up2 s.fr d v, s.lo, s.hs⟩) else Option.none
/-- an operation's work, then its result -/
def ex2 (a : Act1) (d : Option Nat) (s : St2) : Option (Ex × St2) :=
  match a with
  | .pure r => match r with
    | some (.val v) => put2 d v s
    | some .skip => put2 d .undef s
    | some (.panic v) => some (.panic v, s)
    | Option.none => Option.none
  | .locR t f => bif Nat.blt t s.n then match f (s.lo t) with
    | some (.val v) => put2 d v s
    | some .skip => put2 d .undef s
    | some (.panic v) => some (.panic v, s)
    | Option.none => Option.none
    else Option.none
  | .locW t f => bif Nat.blt t s.n then match f (s.lo t) with
    | some (.val v, l) => put2 d v ⟨s.n, s.fr, up2 s.lo t l, s.hs⟩
    | some (.skip, l) => put2 d .undef ⟨s.n, s.fr, up2 s.lo t l, s.hs⟩
    | some (.panic v, l) => some (.panic v, ⟨s.n, s.fr, up2 s.lo t l, s.hs⟩)
    | Option.none => Option.none
    else Option.none
  | .obR i f => match s.hs.get i with
    | some o => match f o with
      | some (.val v) => put2 d v s
      | some .skip => put2 d .undef s
      | some (.panic v) => some (.panic v, s)
      | Option.none => Option.none
    | Option.none => Option.none
  | .obs vs f => match f (s.hs.only (idsOf s.hs vs)) with
    | some (.val v, h) => put2 d v ⟨s.n, s.fr, s.lo, ⟨s.hs.c, merge (idsOf s.hs vs) h s.hs.os⟩⟩
    | some (.skip, h) => put2 d .undef ⟨s.n, s.fr, s.lo, ⟨s.hs.c, merge (idsOf s.hs vs) h s.hs.os⟩⟩
    | some (.panic v, h) => some (.panic v, ⟨s.n, s.fr, s.lo, ⟨s.hs.c, merge (idsOf s.hs vs) h s.hs.os⟩⟩)
    | Option.none => Option.none
  | .hpR f => match f s.hs with
    | some (.val v) => put2 d v s
    | some .skip => put2 d .undef s
    | some (.panic v) => some (.panic v, s)
    | Option.none => Option.none
  | .hpW f => match f s.hs with
    | some (.val v, h) => put2 d v ⟨s.n, s.fr, s.lo, h⟩
    | some (.skip, h) => put2 d .undef ⟨s.n, s.fr, s.lo, h⟩
    | some (.panic v, h) => some (.panic v, ⟨s.n, s.fr, s.lo, h⟩)
    | Option.none => Option.none
def one2 (cf : Cfg) (ev : Ev) (o : LOper) (s : St2) : Option (Ex × St2) :=
  bif want2 s.fr o.guard then ex2 (plan cf ev o.dst o.op (o.xs.map (X.ev2 s.fr))) o.dst s else put2 o.dst .undef s
def bind2 (r : Option (Ex × St2)) (k : St2 → Option (Ex × St2)) : Option (Ex × St2) :=
  match r with
  | some (.normal, s) => k s
  | e => e
def run2 (cf : Cfg) (ev : Ev) : List LOper → St2 → Option (Ex × St2)
  | [], s => some (.normal, s)
  | o :: r, s => bind2 (one2 cf ev o s) (run2 cf ev r)
def acc2 (cf : Cfg) (ev : Ev) (o : LOper) (s : St2) : Acc :=
  bif want2 s.fr o.guard then (plan cf ev o.dst o.op (o.xs.map (X.ev2 s.fr))).acc s.hs else .none
def okAcc (as : List Acc) (un : List Nat) (a : Acc) : Bool := un.all fun i => Acc.ok (as.getD i .hpW) a
def bindD (r : Option (Ex × St2)) (k : St2 → Option (Ex × St2)) : Option (Ex × St2) :=
  match r with
  | some (.normal, s) => k s
  | _ => Option.none
def draw2 (cf : Cfg) (ev : Ev) : List LOper → List Acc → St2 → Option (Ex × St2)
  | [], _, s => some (.normal, s)
  | o :: r, as, s =>
    bif okAcc as o.un (acc2 cf ev o s) then bindD (one2 cf ev o s) (draw2 cf ev r (as ++ [acc2 cf ev o s])) else Option.none

/-! ### the evaluator's states and these -/
structure Rel2 (t : St) (s : St2) : Prop where
  n : t.fr.n = s.n
  le : s.n ≤ 4095
  fr : ∀ i, t.fr.get i = s.fr i
  lo : ∀ i, i < s.n → t.lo[i]? = some (s.lo i)
  hs : t.hs = s.hs
theorem fr_n (f : Fr) (i : Nat) (v : V) : (f.set i v).n = f.n := by
  unfold Fr.set; cases Nat.blt i f.n <;> rfl
theorem rel_set {t : St} {s : St2} (R : Rel2 t s) {d : Nat} (v : V) (h : d < s.n) : Rel2 ⟨t.fr.set d v, t.lo, t.hs⟩ ⟨s.n, up2 s.fr d v, s.lo, s.hs⟩ where
  n := by simp only [fr_n]; exact R.n
  le := R.le
  fr := fun i => by
    show (t.fr.set d v).get i = up2 s.fr d v i
    by_cases hi : i = d
    · subst hi
      rw [up_same]
      exact Fr.get_set_same (by rw [R.n]; exact h) (by rw [R.n]; exact R.le)
    · rw [up_ne _ _ (by rw [Bool.eq_false_iff]; intro hb; exact hi (Nat.eq_of_beq_eq_true hb))]
      rw [Fr.get_set_other (fun e => hi e.symm)]
      exact R.fr i
  lo := R.lo
  hs := R.hs
theorem rel_lo {t : St} {s : St2} (R : Rel2 t s) {d : Nat} (l : Nat × List V) : Rel2 ⟨t.fr, t.lo.set d l, t.hs⟩ ⟨s.n, s.fr, up2 s.lo d l, s.hs⟩ where
  n := R.n
  le := R.le
  fr := R.fr
  lo := fun i hi => by
    simp only at hi ⊢
    rw [List.getElem?_set]
    by_cases hd : d = i
    · subst hd
      have := R.lo d hi
      have hl : d < t.lo.length := by
        rcases Nat.lt_or_ge d t.lo.length with h | h
        · exact h
        · rw [List.getElem?_eq_none h] at this; cases this
      simp [hl, up_same]
    · rw [up_ne _ _ (by rw [Bool.eq_false_iff]; intro hb; exact hd (Nat.eq_of_beq_eq_true hb).symm)]
      simp only [hd, if_false]
      exact R.lo i hi
  hs := R.hs
theorem rel_hs {t : St} {s : St2} (R : Rel2 t s) (h : HS) : Rel2 ⟨t.fr, t.lo, h⟩ ⟨s.n, s.fr, s.lo, h⟩ := ⟨R.n, R.le, R.fr, R.lo, rfl⟩

theorem ev_rel {t : St} {s : St2} (R : Rel2 t s) (x : X) : x.eval t.fr = x.ev2 s.fr := by
  cases x with
  | t n => exact R.fr n
  | c v => rfl
theorem want_rel {t : St} {s : St2} (R : Rel2 t s) (g : Option (Nat × Bool)) : wanted t.fr g = want2 s.fr g := by
  cases g with
  | none => rfl
  | some p => obtain ⟨a, b⟩ := p; unfold wanted want2; simp only [R.fr]; rfl
theorem xs_rel {t : St} {s : St2} (R : Rel2 t s) (xs : List X) : xs.map (X.eval t.fr) = xs.map (X.ev2 s.fr) := by
  apply List.map_congr_left; intro x _; exact ev_rel R x
theorem put_rel {t : St} {s : St2} (R : Rel2 t s) {d : Option Nat} {v : V} {e : Ex} {s' : St2} (h : put2 d v s = some (e, s')) : e = .normal ∧ Rel2 ⟨setD t.fr d v, t.lo, t.hs⟩ s' := by
  unfold put2 at h
  split at h
  · simp only [Option.some.injEq, Prod.mk.injEq] at h
    obtain ⟨rfl, rfl⟩ := h
    exact ⟨rfl, R⟩
  · rename_i d
    cases hb : Nat.blt d s.n with
    | false => rw [hb] at h; cases h
    | true =>
      rw [hb] at h
      simp only [cond_true, Option.some.injEq, Prod.mk.injEq] at h
      obtain ⟨rfl, rfl⟩ := h
      exact ⟨rfl, rel_set R v (by simpa [Nat.blt_eq] using hb)⟩
theorem ex_rel {t : St} {s : St2} (R : Rel2 t s) {a : Act1} {d : Option Nat} {e : Ex} {s' : St2} (h : ex2 a d s = some (e, s')) :
    ∃ o t1, exec1 a t = some (o, t1) ∧ ∃ t', putOut d o t1 = (e, t') ∧ Rel2 t' s' := by
  have fin : ∀ {t1 : St} {s1 : St2} (R1 : Rel2 t1 s1) (o : Out), (match o with | .val v => put2 d v s1 | .skip => put2 d .undef s1 | .panic v => some (.panic v, s1)) = some (e, s') → ∃ t', putOut d o t1 = (e, t') ∧ Rel2 t' s' := by
    intro t1 s1 R1 o ho
    cases o with
    | val v => obtain ⟨rfl, R'⟩ := put_rel R1 ho; exact ⟨_, rfl, R'⟩
    | skip => obtain ⟨rfl, R'⟩ := put_rel R1 ho; exact ⟨_, rfl, R'⟩
    | panic v => simp only [Option.some.injEq, Prod.mk.injEq] at ho; obtain ⟨rfl, rfl⟩ := ho; exact ⟨_, rfl, R1⟩
  cases a with
  | pure r =>
    cases r with
    | none => cases h
    | some o => exact ⟨o, t, rfl, fin R o (by cases o <;> exact h)⟩
  | locR u f =>
    simp only [ex2] at h
    cases hb : Nat.blt u s.n with
    | false => rw [hb] at h; cases h
    | true =>
      rw [hb] at h
      simp only [cond_true] at h
      have hl := R.lo u (by simpa [Nat.blt_eq] using hb)
      cases hf : f (s.lo u) with
      | none => rw [hf] at h; cases h
      | some o => rw [hf] at h; exact ⟨o, t, by simp only [exec1, hl, hf], fin R o (by cases o <;> exact h)⟩
  | locW u f =>
    simp only [ex2] at h
    cases hb : Nat.blt u s.n with
    | false => rw [hb] at h; cases h
    | true =>
      rw [hb] at h
      simp only [cond_true] at h
      have hl := R.lo u (by simpa [Nat.blt_eq] using hb)
      cases hf : f (s.lo u) with
      | none => rw [hf] at h; cases h
      | some p =>
        obtain ⟨o, l⟩ := p
        rw [hf] at h
        exact ⟨o, ⟨t.fr, t.lo.set u l, t.hs⟩, by simp only [exec1, hl, hf], fin (rel_lo R l) o (by cases o <;> exact h)⟩
  | obR i f =>
    simp only [ex2] at h
    cases hg : s.hs.get i with
    | none => rw [hg] at h; cases h
    | some ob =>
      rw [hg] at h
      simp only at h
      cases hf : f ob with
      | none => rw [hf] at h; cases h
      | some o => rw [hf] at h; exact ⟨o, t, by simp only [exec1, R.hs, hg, hf], fin R o (by cases o <;> exact h)⟩
  | obs vs f =>
    simp only [ex2] at h
    cases hf : f (s.hs.only (idsOf s.hs vs)) with
    | none => rw [hf] at h; cases h
    | some p =>
      obtain ⟨o, g⟩ := p
      rw [hf] at h
      exact ⟨o, ⟨t.fr, t.lo, ⟨s.hs.c, merge (idsOf s.hs vs) g s.hs.os⟩⟩, by simp only [exec1, R.hs, hf], fin (rel_hs R _) o (by cases o <;> exact h)⟩
  | hpR f =>
    simp only [ex2] at h
    cases hf : f s.hs with
    | none => rw [hf] at h; cases h
    | some o => rw [hf] at h; exact ⟨o, t, by simp only [exec1, R.hs, hf], fin R o (by cases o <;> exact h)⟩
  | hpW f =>
    simp only [ex2] at h
    cases hf : f s.hs with
    | none => rw [hf] at h; cases h
    | some p =>
      obtain ⟨o, g⟩ := p
      rw [hf] at h
      exact ⟨o, ⟨t.fr, t.lo, g⟩, by simp only [exec1, R.hs, hf], fin (rel_hs R _) o (by cases o <;> exact h)⟩
theorem one_rel {cf : Cfg} {ev : Ev} {t : St} {s : St2} (R : Rel2 t s) {o : LOper} {e : Ex} {s' : St2} (h : one2 cf ev o s = some (e, s')) : ∃ t', oneOp cf ev o t = some (e, t') ∧ Rel2 t' s' := by
  unfold one2 at h
  unfold oneOp
  rw [want_rel R]
  cases hw : want2 s.fr o.guard with
  | false =>
    rw [hw] at h
    obtain ⟨rfl, R'⟩ := put_rel R h
    exact ⟨_, rfl, R'⟩
  | true =>
    rw [hw] at h
    simp only [cond_true] at h ⊢
    rw [← xs_rel R] at h
    obtain ⟨r, t1, h1, t', h2, R'⟩ := ex_rel R h
    exact ⟨t', by rw [h1]; exact congrArg some h2, R'⟩
theorem run_rel {cf : Cfg} {ev : Ev} : ∀ (ops : List LOper) {t : St} {s : St2} (_ : Rel2 t s) {e : Ex} {s' : St2} (_ : run2 cf ev ops s = some (e, s')), ∃ t', runOps cf ev ops t = some (e, t') ∧ Rel2 t' s'
  | [], t, s, R, e, s', h => by
    simp only [run2, Option.some.injEq, Prod.mk.injEq] at h
    obtain ⟨rfl, rfl⟩ := h
    exact ⟨t, rfl, R⟩
  | o :: l, t, s, R, e, s', h => by
    simp only [run2] at h
    cases ho : one2 cf ev o s with
    | none => rw [ho] at h; cases h
    | some p =>
      obtain ⟨x, s1⟩ := p
      obtain ⟨t1, h1, R1⟩ := one_rel R ho
      rw [ho] at h
      unfold runOps
      rw [h1]
      cases x with
      | normal => exact run_rel l R1 h
      | exit i => simp only [bind2, Option.some.injEq, Prod.mk.injEq] at h; obtain ⟨rfl, rfl⟩ := h; exact ⟨t1, rfl, R1⟩
      | ret => simp only [bind2, Option.some.injEq, Prod.mk.injEq] at h; obtain ⟨rfl, rfl⟩ := h; exact ⟨t1, rfl, R1⟩
      | panic v => simp only [bind2, Option.some.injEq, Prod.mk.injEq] at h; obtain ⟨rfl, rfl⟩ := h; exact ⟨t1, rfl, R1⟩
theorem acc_rel {cf : Cfg} {ev : Ev} {t : St} {s : St2} (R : Rel2 t s) (o : LOper) : accOf cf ev o t = acc2 cf ev o s := by
  unfold accOf acc2; rw [want_rel R, xs_rel R, R.hs]
theorem draw_rel {cf : Cfg} {ev : Ev} : ∀ (ops : List LOper) (as : List Acc) {t : St} {s : St2} (_ : Rel2 t s) {e : Ex} {s' : St2} (_ : draw2 cf ev ops as s = some (e, s')), ∃ t', runDraw cf ev ops as t = some (e, t') ∧ Rel2 t' s'
  | [], as, t, s, R, e, s', h => by
    simp only [draw2, Option.some.injEq, Prod.mk.injEq] at h
    obtain ⟨rfl, rfl⟩ := h
    exact ⟨t, rfl, R⟩
  | o :: l, as, t, s, R, e, s', h => by
    unfold draw2 at h
    rw [runDraw_cons]
    rw [acc_rel R]
    unfold okAcc at h
    cases hb : (o.un.all fun i => Acc.ok (as.getD i .hpW) (acc2 cf ev o s)) with
    | false => rw [hb] at h; cases h
    | true =>
      rw [hb] at h
      simp only [cond_true] at h ⊢
      cases ho : one2 cf ev o s with
      | none => rw [ho] at h; cases h
      | some p =>
        obtain ⟨x, s1⟩ := p
        obtain ⟨t1, h1, R1⟩ := one_rel R ho
        rw [ho] at h
        cases x with
        | normal => rw [h1]; exact draw_rel l _ R1 h
        | _ => cases h

/-! ### what code comes to -/
def WC (cf : Cfg) (c : LCode) (s : St2) (Q : Ex → St2 → Prop) : Prop :=
  ∀ t, Rel2 t s → ∃ n e t' s', evalCode cf (evalCall cf n) n c t = some (e, t') ∧ Rel2 t' s' ∧ Q e s'

theorem more {cf : Cfg} {n m : Nat} (h : n ≤ m) {c : LCode} {t : St} {r : Ex × St} (he : evalCode cf (evalCall cf n) n c t = some r) : evalCode cf (evalCall cf m) m c t = some r :=
  evalCode_mono cf (evalCall_le cf h) h c t r he
section
variable {cf : Cfg} {s s' : St2} {Q Q' : Ex → St2 → Prop} {a b : LCode}
theorem WC.mono (h : WC cf a s Q) (hq : ∀ e s', Q e s' → Q' e s') : WC cf a s Q' := fun t R => by
  obtain ⟨n, e, t', s', h1, h2, h3⟩ := h t R
  exact ⟨n, e, t', s', h1, h2, hq _ _ h3⟩
theorem wc_skip (h : Q .normal s) : WC cf .skip s Q := fun t R => ⟨0, _, t, s, rfl, R, h⟩
theorem wc_exit {i : Nat} (h : Q (.exit i) s) : WC cf (.exit i) s Q := fun t R => ⟨0, _, t, s, rfl, R, h⟩
theorem wc_ret (h : Q .ret s) : WC cf .ret s Q := fun t R => ⟨0, _, t, s, rfl, R, h⟩
/-- what comes behind: at the normal end that code, else nothing -/
def Then (cf : Cfg) (b : LCode) (Q : Ex → St2 → Prop) : Ex → St2 → Prop
  | .normal, s => WC cf b s Q
  | e, s => Q e s
theorem wc_seq (h : WC cf a s (Then cf b Q)) : WC cf (.seq a b) s Q := fun t R => by
  obtain ⟨n, e, t1, s1, h1, R1, h3⟩ := h t R
  cases e with
  | normal =>
    obtain ⟨m, e2, t2, s2, h4, R2, h5⟩ := h3 t1 R1
    refine ⟨max n m, e2, t2, s2, ?_, R2, h5⟩
    unfold evalCode
    rw [more (Nat.le_max_left n m) h1]
    exact more (Nat.le_max_right n m) h4
  | exit i => exact ⟨n, _, t1, s1, by unfold evalCode; rw [h1], R1, h3⟩
  | ret => exact ⟨n, _, t1, s1, by unfold evalCode; rw [h1], R1, h3⟩
  | panic v => exact ⟨n, _, t1, s1, by unfold evalCode; rw [h1], R1, h3⟩
theorem wc_reg {ops : List LOper} {e : Ex} (h : run2 cf (Call cf) ops s = some (e, s')) (k : Q e s') : WC cf (.reg ops false) s Q := fun t R => by
  obtain ⟨t', h1, R'⟩ := run_rel ops R h
  obtain ⟨n, hn⟩ := runOps_cont ops t _ h1
  exact ⟨n, e, t', s', hn, R', k⟩
theorem wc_draw {ops : List LOper} {e : Ex} (h : draw2 cf (Call cf) ops [] s = some (e, s')) (k : Q e s') : WC cf (.reg ops true) s Q := fun t R => by
  obtain ⟨t', h1, R'⟩ := draw_rel ops [] R h
  obtain ⟨n, hn⟩ := runDraw_cont ops [] t _ h1
  exact ⟨n, e, t', s', hn, R', k⟩
theorem wc_cond {x : X} {c : Bool} (h : x.ev2 s.fr = .bool c) (h1 : c = true → WC cf a s Q) (h2 : c = false → WC cf b s Q) : WC cf (.cond x a b) s Q := fun t R => by
  cases c with
  | true =>
    obtain ⟨n, e, t', s', h1, h2, h3⟩ := h1 rfl t R
    exact ⟨n, e, t', s', by unfold evalCode; rw [ev_rel R, h]; exact h1, h2, h3⟩
  | false =>
    obtain ⟨n, e, t', s', h1, h2, h3⟩ := h2 rfl t R
    exact ⟨n, e, t', s', by unfold evalCode; rw [ev_rel R, h]; exact h1, h2, h3⟩
theorem wc_then {x : X} (h : x.ev2 s.fr = .bool true) (k : WC cf a s Q) : WC cf (.cond x a b) s Q := wc_cond h (fun _ => k) (fun h => by cases h)
theorem wc_else {x : X} (h : x.ev2 s.fr = .bool false) (k : WC cf b s Q) : WC cf (.cond x a b) s Q := wc_cond h (fun h => by cases h) (fun _ => k)
/-- an exit from a block ends there -/
def Out2 (i : Nat) (Q : Ex → St2 → Prop) : Ex → St2 → Prop
  | .exit j, s => bif Nat.beq j i then Q .normal s else Q (.exit j) s
  | e, s => Q e s
theorem wc_block {i : Nat} (h : WC cf a s (Out2 i Q)) : WC cf (.block i a) s Q := fun t R => by
  obtain ⟨n, e, t1, s1, h1, R1, h3⟩ := h t R
  cases e with
  | exit j =>
    simp only [Out2] at h3
    cases hb : Nat.beq j i with
    | true => rw [hb] at h3; exact ⟨n, _, t1, s1, by unfold evalCode; rw [h1]; simp only [hb, cond_true], R1, h3⟩
    | false => rw [hb] at h3; exact ⟨n, _, t1, s1, by unfold evalCode; rw [h1]; simp only [hb, cond_false], R1, h3⟩
  | normal => exact ⟨n, _, t1, s1, by unfold evalCode; rw [h1], R1, h3⟩
  | ret => exact ⟨n, _, t1, s1, by unfold evalCode; rw [h1], R1, h3⟩
  | panic v => exact ⟨n, _, t1, s1, by unfold evalCode; rw [h1], R1, h3⟩
/-- a round's end: again, with less to go -/
def Round (k : Nat) (I : Nat → St2 → Prop) (Q : Ex → St2 → Prop) : Ex → St2 → Prop
  | .normal, s => ∃ j, j < k ∧ I j s
  | e, s => Q e s
theorem loop_iter {I : Nat → St2 → Prop} (step : ∀ k s, I k s → WC cf a s (Round k I Q)) : ∀ (k : Nat) (s : St2), I k s → ∀ t, Rel2 t s → ∃ n e t' s', (∀ m, n ≤ m → iter (evalCode cf (evalCall cf m) m a) m t = some (e, t')) ∧ Rel2 t' s' ∧ Q e s' := by
  intro k
  induction k using Nat.strongRecOn with
  | _ k ih =>
    intro s hI t R
    obtain ⟨n, e, t1, s1, h1, R1, h3⟩ := step k s hI t R
    cases e with
    | normal =>
      obtain ⟨j, hj, hI'⟩ := h3
      obtain ⟨m, e2, t2, s2, h4, R2, h5⟩ := ih j hj s1 hI' t1 R1
      refine ⟨max n (m + 1), e2, t2, s2, ?_, R2, h5⟩
      intro q hq
      obtain ⟨q', rfl⟩ : ∃ q', q = q' + 1 := ⟨q - 1, by omega⟩
      unfold iter
      rw [more (by omega) h1]
      simp only
      have h6 := h4 m (Nat.le_refl _)
      exact iter_mono (fun s r hs => evalCode_mono cf (evalCall_le cf (by omega)) (by omega) a s r hs) m q' (by omega) _ _ h6
    | exit i => exact ⟨n + 1, _, t1, s1, fun q hq => by obtain ⟨q', rfl⟩ : ∃ q', q = q' + 1 := ⟨q - 1, by omega⟩; unfold iter; rw [more (by omega) h1], R1, h3⟩
    | ret => exact ⟨n + 1, _, t1, s1, fun q hq => by obtain ⟨q', rfl⟩ : ∃ q', q = q' + 1 := ⟨q - 1, by omega⟩; unfold iter; rw [more (by omega) h1], R1, h3⟩
    | panic v => exact ⟨n + 1, _, t1, s1, fun q hq => by obtain ⟨q', rfl⟩ : ∃ q', q = q' + 1 := ⟨q - 1, by omega⟩; unfold iter; rw [more (by omega) h1], R1, h3⟩
theorem wc_loop0 {k : Nat} (I : Nat → St2 → Prop) (h0 : I k s) (step : ∀ k s, I k s → WC cf a s (Round k I Q)) : WC cf (.loop a) s Q := fun t R => by
  obtain ⟨n, e, t', s', h1, R', h3⟩ := loop_iter step k s h0 t R
  exact ⟨n, e, t', s', by unfold evalCode; exact h1 n (Nat.le_refl _), R', h3⟩
end

/-! ### what code does not write -/
def dsts : LCode → List Nat
  | .reg ops _ => ops.filterMap LOper.dst
  | .seq a b => dsts a ++ dsts b
  | .cond _ a b => dsts a ++ dsts b
  | .block _ a => dsts a
  | .loop a => dsts a
  | _ => []
def SameOut (l : List Nat) (t t' : St) : Prop := t'.fr.n = t.fr.n ∧ ∀ i, memN i l = false → t'.fr.get i = t.fr.get i
theorem SameOut.refl (l : List Nat) (t : St) : SameOut l t t := ⟨rfl, fun _ _ => rfl⟩
theorem SameOut.trans {l : List Nat} {t u v : St} (h : SameOut l t u) (g : SameOut l u v) : SameOut l t v := ⟨g.1.trans h.1, fun i hi => (g.2 i hi).trans (h.2 i hi)⟩
theorem memN_append (i : Nat) : ∀ l r : List Nat, memN i (l ++ r) = (memN i l || memN i r)
  | [], r => by simp [memN]
  | a :: l, r => by simp [memN, memN_append i l r, Bool.or_assoc]
theorem SameOut.left {l r : List Nat} {t u : St} (h : SameOut l t u) : SameOut (l ++ r) t u := ⟨h.1, fun i hi => h.2 i (by rw [memN_append] at hi; simpa using (Bool.or_eq_false_iff.mp hi).1)⟩
theorem SameOut.right {l r : List Nat} {t u : St} (h : SameOut r t u) : SameOut (l ++ r) t u := ⟨h.1, fun i hi => h.2 i (by rw [memN_append] at hi; simpa using (Bool.or_eq_false_iff.mp hi).2)⟩
theorem exec_fr {a : Act1} {t t' : St} {o : Out} (h : exec1 a t = some (o, t')) : t'.fr = t.fr := by
  cases a <;> simp only [exec1] at h <;> (repeat' split at h) <;> first | (cases h; done) | (simp only [Option.some.injEq, Prod.mk.injEq] at h; obtain ⟨_, rfl⟩ := h; rfl)
theorem setD_out (d : Option Nat) (f : Fr) (v : V) (l : St → St) (t : St) : (setD f d v).n = f.n ∧ ∀ i, memN i d.toList = false → (setD f d v).get i = f.get i := by
  cases d with
  | none => exact ⟨rfl, fun _ _ => rfl⟩
  | some d =>
    refine ⟨fr_n f d v, fun i hi => ?_⟩
    simp only [Option.toList, memN, Bool.or_false] at hi
    exact Fr.get_set_other (fun e => by subst e; simp at hi)
theorem oneOp_out {cf : Cfg} {ev : Ev} {o : LOper} {t t' : St} {e : Ex} (h : oneOp cf ev o t = some (e, t')) : SameOut o.dst.toList t t' := by
  unfold oneOp at h
  cases hw : wanted t.fr o.guard with
  | false =>
    rw [hw] at h
    simp only [cond_false, Option.some.injEq, Prod.mk.injEq] at h
    obtain ⟨rfl, rfl⟩ := h
    exact setD_out _ _ _ id t
  | true =>
    rw [hw] at h
    simp only [cond_true] at h
    split at h
    · rename_i r t1 he
      have hf := exec_fr he
      cases r with
      | val v =>
        simp only [putOut, Option.some.injEq, Prod.mk.injEq] at h
        obtain ⟨rfl, rfl⟩ := h
        rw [hf]; exact setD_out _ _ _ id t
      | skip =>
        simp only [putOut, Option.some.injEq, Prod.mk.injEq] at h
        obtain ⟨rfl, rfl⟩ := h
        rw [hf]; exact setD_out _ _ _ id t
      | panic v =>
        simp only [putOut, Option.some.injEq, Prod.mk.injEq] at h
        obtain ⟨rfl, rfl⟩ := h
        exact ⟨by rw [hf], fun i _ => by rw [hf]⟩
    · cases h
theorem fm_cons (o : LOper) (r : List LOper) : (o :: r).filterMap LOper.dst = o.dst.toList ++ r.filterMap LOper.dst := by
  cases h : o.dst <;> simp [h]
theorem runOps_out {cf : Cfg} {ev : Ev} : ∀ (ops : List LOper) {t t' : St} {e : Ex}, runOps cf ev ops t = some (e, t') → SameOut (ops.filterMap LOper.dst) t t'
  | [], t, t', e, h => by
    simp only [runOps, Option.some.injEq, Prod.mk.injEq] at h
    obtain ⟨rfl, rfl⟩ := h
    exact .refl _ _
  | o :: r, t, t', e, h => by
    unfold runOps at h
    rw [fm_cons]
    cases ho : oneOp cf ev o t with
    | none => rw [ho] at h; cases h
    | some p =>
      obtain ⟨x, t1⟩ := p
      rw [ho] at h
      have h1 := oneOp_out ho
      cases x with
      | normal => exact h1.left.trans (runOps_out r h).right
      | exit i => simp only [Option.some.injEq, Prod.mk.injEq] at h; obtain ⟨_, rfl⟩ := h; exact h1.left
      | ret => simp only [Option.some.injEq, Prod.mk.injEq] at h; obtain ⟨_, rfl⟩ := h; exact h1.left
      | panic v => simp only [Option.some.injEq, Prod.mk.injEq] at h; obtain ⟨_, rfl⟩ := h; exact h1.left
theorem runDraw_out {cf : Cfg} {ev : Ev} : ∀ (ops : List LOper) (as : List Acc) {t t' : St} {e : Ex}, runDraw cf ev ops as t = some (e, t') → SameOut (ops.filterMap LOper.dst) t t'
  | [], as, t, t', e, h => by
    simp only [runDraw, Option.some.injEq, Prod.mk.injEq] at h
    obtain ⟨rfl, rfl⟩ := h
    exact .refl _ _
  | o :: r, as, t, t', e, h => by
    rw [runDraw_cons] at h
    rw [fm_cons]
    cases hb : (o.un.all fun i => Acc.ok (as.getD i .hpW) (accOf cf ev o t)) with
    | false => rw [hb] at h; cases h
    | true =>
      rw [hb] at h
      simp only [cond_true] at h
      split at h
      · rename_i t1 ho
        exact (oneOp_out ho).left.trans (runDraw_out r _ h).right
      · cases h
theorem iter_out {l : List Nat} {body : St → Option (Ex × St)} (H : ∀ t e t', body t = some (e, t') → SameOut l t t') : ∀ (n : Nat) (t : St) (e : Ex) (t' : St), iter body n t = some (e, t') → SameOut l t t'
  | 0, t, e, t', h => by cases h
  | n + 1, t, e, t', h => by
    unfold iter at h
    cases ho : body t with
    | none => rw [ho] at h; cases h
    | some p =>
      obtain ⟨x, t1⟩ := p
      rw [ho] at h
      have h1 := H _ _ _ ho
      cases x with
      | normal => exact h1.trans (iter_out H n t1 e t' h)
      | exit i => simp only [Option.some.injEq, Prod.mk.injEq] at h; obtain ⟨_, rfl⟩ := h; exact h1
      | ret => simp only [Option.some.injEq, Prod.mk.injEq] at h; obtain ⟨_, rfl⟩ := h; exact h1
      | panic v => simp only [Option.some.injEq, Prod.mk.injEq] at h; obtain ⟨_, rfl⟩ := h; exact h1
theorem code_out {cf : Cfg} {ev : Ev} {n : Nat} : ∀ (c : LCode) (t t' : St) (e : Ex), evalCode cf ev n c t = some (e, t') → SameOut (dsts c) t t'
  | .skip, t, t', e, h => by simp only [evalCode, Option.some.injEq, Prod.mk.injEq] at h; obtain ⟨_, rfl⟩ := h; exact .refl _ _
  | .reg ops false, t, t', e, h => runOps_out ops h
  | .reg ops true, t, t', e, h => runDraw_out ops [] h
  | .seq a b, t, t', e, h => by
    unfold evalCode at h
    cases ho : evalCode cf ev n a t with
    | none => rw [ho] at h; cases h
    | some p =>
      obtain ⟨x, t1⟩ := p
      rw [ho] at h
      have h1 := code_out a _ _ _ ho
      cases x with
      | normal => exact h1.left.trans (code_out b _ _ _ h).right
      | exit i => simp only [Option.some.injEq, Prod.mk.injEq] at h; obtain ⟨_, rfl⟩ := h; exact h1.left
      | ret => simp only [Option.some.injEq, Prod.mk.injEq] at h; obtain ⟨_, rfl⟩ := h; exact h1.left
      | panic v => simp only [Option.some.injEq, Prod.mk.injEq] at h; obtain ⟨_, rfl⟩ := h; exact h1.left
  | .cond x a b, t, t', e, h => by
    unfold evalCode at h
    split at h
    · exact (code_out a _ _ _ h).left
    · exact (code_out b _ _ _ h).right
    · cases h
  | .block id a, t, t', e, h => by
    unfold evalCode at h
    cases ho : evalCode cf ev n a t with
    | none => rw [ho] at h; cases h
    | some p =>
      obtain ⟨x, t1⟩ := p
      rw [ho] at h
      have h1 := code_out a _ _ _ ho
      cases x with
      | exit i =>
        simp only at h
        cases hb : Nat.beq i id with
        | true => rw [hb] at h; simp only [cond_true, Option.some.injEq, Prod.mk.injEq] at h; obtain ⟨_, rfl⟩ := h; exact h1
        | false => rw [hb] at h; simp only [cond_false, Option.some.injEq, Prod.mk.injEq] at h; obtain ⟨_, rfl⟩ := h; exact h1
      | normal => simp only [Option.some.injEq, Prod.mk.injEq] at h; obtain ⟨_, rfl⟩ := h; exact h1
      | ret => simp only [Option.some.injEq, Prod.mk.injEq] at h; obtain ⟨_, rfl⟩ := h; exact h1
      | panic v => simp only [Option.some.injEq, Prod.mk.injEq] at h; obtain ⟨_, rfl⟩ := h; exact h1
  | .loop a, t, t', e, h => by
    unfold evalCode at h
    exact iter_out (fun t e t' h => code_out a t t' e h) n t e t' h
  | .exit i, t, t', e, h => by simp only [evalCode, Option.some.injEq, Prod.mk.injEq] at h; obtain ⟨_, rfl⟩ := h; exact .refl _ _
  | .ret, t, t', e, h => by simp only [evalCode, Option.some.injEq, Prod.mk.injEq] at h; obtain ⟨_, rfl⟩ := h; exact .refl _ _
  | .frz u, t, t', e, h => by
    unfold evalCode at h
    split at h
    · rename_i g cs hl
      cases hb : Nat.beq g 0 with
      | true => rw [hb] at h; simp only [cond_true, Option.some.injEq, Prod.mk.injEq] at h; obtain ⟨_, rfl⟩ := h; exact .refl _ _
      | false =>
        rw [hb] at h
        simp only [cond_false] at h
        split at h
        · simp only [Option.some.injEq, Prod.mk.injEq] at h; obtain ⟨_, rfl⟩ := h; exact ⟨rfl, fun _ _ => rfl⟩
        · cases h
    · cases h
/-- temporaries that are not written stay -/
structure Kept (l : List Nat) (s s' : St2) : Prop where
  n : s'.n = s.n
  fr : ∀ i, memN i l = false → s'.fr i = s.fr i
theorem Kept.refl (l : List Nat) (s : St2) : Kept l s s := ⟨rfl, fun _ _ => rfl⟩
theorem Kept.trans {l : List Nat} {s u v : St2} (h : Kept l s u) (g : Kept l u v) : Kept l s v := ⟨g.n.trans h.n, fun i hi => (g.fr i hi).trans (h.fr i hi)⟩
section
variable {cf : Cfg} {s s' : St2} {Q Q' : Ex → St2 → Prop} {a b : LCode}
theorem WC.kept (h : WC cf a s Q) : WC cf a s (fun e s' => Q e s' ∧ Kept (dsts a) s s') := fun t R => by
  obtain ⟨n, e, t', s', h1, R', h3⟩ := h t R
  have ho := code_out a _ _ _ h1
  exact ⟨n, e, t', s', h1, R', h3, by rw [← R'.n, ← R.n]; exact ho.1, fun i hi => by rw [← R'.fr, ← R.fr]; exact ho.2 i hi⟩
/-- THE LOOP's RULE: a relation with a measure; what a round does not write is as it was ahead of the loop -/
theorem wc_loop {k : Nat} (I : Nat → St2 → Prop) (h0 : I k s) (step : ∀ k s', I k s' → Kept (dsts a) s s' → WC cf a s' (Round k I Q)) : WC cf (.loop a) s Q := by
  refine wc_loop0 (k := k) (fun k s' => I k s' ∧ Kept (dsts a) s s') ⟨h0, .refl _ _⟩ ?_
  rintro k s' ⟨hI, hk⟩
  refine (step k s' hI hk).kept.mono ?_
  rintro e s'' ⟨h1, h2⟩
  cases e with
  | normal => obtain ⟨j, hj, h⟩ := h1; exact ⟨j, hj, h, hk.trans h2⟩
  | exit i => exact h1
  | ret => exact h1
  | panic v => exact h1
/-- a piece of code for itself -/
theorem wc_cut (Q1 : Ex → St2 → Prop) (h : WC cf a s Q1) (k : ∀ e s', Q1 e s' → Kept (dsts a) s s' → Q e s') : WC cf a s Q := h.kept.mono fun e s' ⟨h1, h2⟩ => k e s' h1 h2
theorem wc_frz {t g : Nat} {cs cs' : List V} {h' : HS} (ht : Nat.blt t s.n = true) (hl : s.lo t = (g, cs)) (hg : Nat.beq g 0 = false) (hst : stillCells s.hs cs = some (cs', h')) (k : Q .normal ⟨s.n, s.fr, up2 s.lo t (g, cs'), h'⟩) : WC cf (.frz t) s Q := fun t0 R => by
  have := R.lo t (by simpa [Nat.blt_eq] using ht)
  refine ⟨0, .normal, _, _, ?_, rel_hs (rel_lo R (g, cs')) h', k⟩
  unfold evalCode
  rw [this, hl]
  simp only [hg, cond_false, R.hs, hst]
theorem wc_frz0 {t : Nat} {cs : List V} (ht : Nat.blt t s.n = true) (hl : s.lo t = (0, cs)) (k : Q .normal s) : WC cf (.frz t) s Q := fun t0 R => by
  have := R.lo t (by simpa [Nat.blt_eq] using ht)
  refine ⟨0, .normal, _, _, ?_, R, k⟩
  unfold evalCode
  rw [this, hl]
  simp only [Nat.beq_refl, cond_true]
end

/-! ### a whole call -/
def res2 (s : St2) : RV → Option V
  | .tmp t => some (s.fr t)
  | .cell t ag sz => match loadV ag sz (s.fr t) with
    | .pure (some (.val v)) => some v
    | .locR u f => bif Nat.blt u s.n then match f (s.lo u) with
      | some (.val v) => some v
      | _ => Option.none
      else Option.none
    | .obR i f => match s.hs.get i with
      | some o => match f o with
        | some (.val v) => some v
        | _ => Option.none
      | Option.none => Option.none
    | _ => Option.none
theorem res_rel {t : St} {s : St2} (R : Rel2 t s) {rv : RV} {v : V} (h : res2 s rv = some v) : resV t rv = some v := by
  cases rv with
  | tmp u => simp only [res2, resV, R.fr] at h ⊢; exact h
  | cell u ag sz =>
    simp only [res2] at h
    simp only [resV, R.fr, R.hs]
    cases hl : loadV ag sz (s.fr u) with
    | locR w f =>
      rw [hl] at h
      simp only at h ⊢
      cases hb : Nat.blt w s.n with
      | false => rw [hb] at h; cases h
      | true =>
        rw [hb] at h
        rw [R.lo w (by simpa [Nat.blt_eq] using hb)]
        exact h
    | pure r =>
      rw [hl] at h
      cases r with
      | none => cases h
      | some o => cases o <;> exact h
    | obR i f => rw [hl] at h; exact h
    | locW _ _ => rw [hl] at h; cases h
    | obs _ _ => rw [hl] at h; cases h
    | hpR _ => rw [hl] at h; cases h
    | hpW _ => rw [hl] at h; cases h
theorem ress_rel {t : St} {s : St2} (R : Rel2 t s) : ∀ {rs : List RV} {vs : List V}, mapO (res2 s) rs = some vs → mapO (resV t) rs = some vs
  | [], vs, h => h
  | r :: rs, vs, h => by
    unfold mapO at h ⊢
    cases h1 : res2 s r with
    | none => rw [h1] at h; cases h
    | some v =>
      rw [h1] at h
      rw [res_rel R h1]
      cases h2 : mapO (res2 s) rs with
      | none => rw [h2] at h; cases h
      | some w => rw [h2] at h; rw [ress_rel R h2]; exact h
def fin2 (imp : Nat) (rs : List RV) (e : Ex) (s : St2) : Option (Res × HS) :=
  match e with
  | .normal | .ret => match mapO (res2 s) rs with
    | some vs => handBack imp s.hs vs
    | Option.none => Option.none
  | .panic v => some (.panic v, s.hs)
  | .exit _ => Option.none
theorem fill_at : ∀ (args : List V) (t : Tr) (i j : Nat), i + args.length ≤ 4095 → (Tr.fill t i args).get j = if i ≤ j ∧ j < i + args.length then args.getD (j - i) .undef else t.get j
  | [], t, i, j, _ => by simp only [Tr.fill, List.length_nil, Nat.add_zero]; rw [if_neg (by omega)]
  | v :: r, t, i, j, h => by
    simp only [Tr.fill, List.length_cons] at h ⊢
    rw [fill_at r _ (i + 1) j (by omega)]
    by_cases h1 : i = j
    · subst h1
      rw [if_neg (by omega), if_pos (by omega), Tr.get_set_same 12 t i v (by omega)]
      simp
    · by_cases h2 : i + 1 ≤ j ∧ j < i + 1 + r.length
      · rw [if_pos h2, if_pos (by omega)]
        obtain ⟨d, rfl⟩ : ∃ d, j = i + 1 + d := ⟨j - (i + 1), by omega⟩
        have e1 : i + 1 + d - (i + 1) = d := by omega
        have e2 : i + 1 + d - i = d + 1 := by omega
        rw [e1, e2]; simp
      · rw [if_neg h2, if_neg (by omega), Tr.get_set_other 12 t i j v h1]
theorem frOf_getD : ∀ (l : List V) (i : Nat), frOf l i = l.getD i .undef
  | [], i => by simp [frOf]
  | v :: r, 0 => by simp [frOf]
  | v :: r, i + 1 => by simp [frOf, frOf_getD r i]
theorem rel_enter {nt : Nat} {args : List V} {h : HS} (h1 : args.length ≤ nt) (h2 : nt ≤ 4095) : Rel2 (enterSt nt args h) ⟨nt, frOf args, lo0, h⟩ where
  n := by simp only [enterSt, Fr.of]; omega
  le := h2
  fr := fun i => by
    simp only [enterSt, Fr.get, Fr.of]
    have e : args.length + (nt - args.length) = nt := by omega
    rw [e, frOf_getD]
    cases hb : Nat.blt i nt with
    | true =>
      simp only [cond_true]
      rw [fill_at args .e 0 i (by omega)]
      by_cases hi : i < args.length
      · rw [if_pos (by omega)]; simp
      · rw [if_neg (by omega)]
        simp [Tr.get, List.getD, List.getElem?_eq_none (by omega : args.length ≤ i)]
    | false =>
      have : ¬ i < nt := by rw [← Nat.blt_eq, hb]; simp
      simp [List.getD, List.getElem?_eq_none (by omega : args.length ≤ i)]
  lo := fun i hi => by simp [enterSt, lo0, List.getElem?_replicate, hi]
  hs := rfl
theorem call_code {cf : Cfg} {f : Nat} {lf : LFunc} {args : List V} {h : HS} {r : Res × HS} (hf : cf.fn f = some (.code lf)) (h1 : Nat.ble args.length lf.nt = true) (h2 : Nat.ble lf.nt 4095 = true)
    (hw : WC cf lf.body ⟨lf.nt, frOf args, lo0, h⟩ (fun e s => fin2 (cf.imp f) lf.res e s = some r)) : Call cf f args h = some r := by
  rw [Nat.ble_eq] at h1 h2
  obtain ⟨n, e, t', s', he, R, hq⟩ := hw _ (rel_enter h1 h2)
  refine Call_eq ⟨n + 1, ?_⟩
  unfold evalCall
  rw [hf]
  have : Nat.ble (args.length + (lf.nt - args.length)) 4095 = true := by rw [Nat.ble_eq]; omega
  simp only [this, cond_true, he]
  have hh := R.hs
  unfold fin2 at hq
  cases e with
  | normal =>
    simp only at hq ⊢
    split at hq
    · rename_i vs hv; rw [ress_rel R hv, hh]; exact hq
    · cases hq
  | ret =>
    simp only at hq ⊢
    split at hq
    · rename_i vs hv; rw [ress_rel R hv, hh]; exact hq
    · cases hq
  | panic v => simp only at hq ⊢; rw [hh]; exact hq
  | exit i => cases hq
theorem call_prim {cf : Cfg} {f : Nat} {g : List V → HS → Option (V × HS)} {args : List V} {h h' : HS} {v : V} (hf : cf.fn f = some (.prim g)) (hg : g args h = some (v, h')) : Call cf f args h = some (.ret v, h') := by
  refine Call_eq ⟨1, ?_⟩
  unfold evalCall
  rw [hf]
  simp only [hg]
/-- a call that is handed values alone -/
noncomputable def PCall (cf : Cfg) (f : Nat) (args : List V) : Option Res := match Call cf f args HS.none with
  | some (r, _) => some r
  | Option.none => Option.none
theorem callPure_eq (cf : Cfg) (f : Nat) (vs : List V) : callPure (Call cf) f vs = match PCall cf f vs with | some r => retPure r | Option.none => Option.none := by
  unfold callPure PCall
  cases Call cf f vs HS.none with
  | none => rfl
  | some p => obtain ⟨r, h⟩ := p; rfl
def resOf2 : Option (Res × HS) → Option Res
  | some (r, _) => some r
  | Option.none => Option.none
theorem pcall_code {cf : Cfg} {f : Nat} {lf : LFunc} {args : List V} {r : Res} (hf : cf.fn f = some (.code lf)) (h1 : Nat.ble args.length lf.nt = true) (h2 : Nat.ble lf.nt 4095 = true)
    (hw : WC cf lf.body ⟨lf.nt, frOf args, lo0, HS.none⟩ (fun e s => resOf2 (fin2 (cf.imp f) lf.res e s) = some r)) : PCall cf f args = some r := by
  have hw2 : ∃ h', CallsTo cf f args HS.none (r, h') := by
    rw [Nat.ble_eq] at h1 h2
    obtain ⟨n, e, t', s', he, R, hq⟩ := hw _ (rel_enter h1 h2)
    cases hfin : fin2 (cf.imp f) lf.res e s' with
    | none => rw [hfin] at hq; cases hq
    | some p =>
      obtain ⟨r', h'⟩ := p
      rw [hfin] at hq
      simp only [resOf2, Option.some.injEq] at hq
      subst hq
      refine ⟨h', n + 1, ?_⟩
      unfold evalCall
      rw [hf]
      have : Nat.ble (args.length + (lf.nt - args.length)) 4095 = true := by rw [Nat.ble_eq]; omega
      simp only [this, cond_true, he]
      have hh := R.hs
      unfold fin2 at hfin
      cases e with
      | normal =>
        simp only at hfin ⊢
        split at hfin
        · rename_i vs hv; rw [ress_rel R hv, hh]; exact hfin
        · cases hfin
      | ret =>
        simp only at hfin ⊢
        split at hfin
        · rename_i vs hv; rw [ress_rel R hv, hh]; exact hfin
        · cases hfin
      | panic v => simp only at hfin ⊢; rw [hh]; exact hfin
      | exit i => cases hfin
  obtain ⟨h', hc⟩ := hw2
  unfold PCall
  rw [Call_eq hc]
theorem pcall_of {cf : Cfg} {f : Nat} {args : List V} {r : Res} {h' : HS} (h : Call cf f args HS.none = some (r, h')) : PCall cf f args = some r := by
  unfold PCall; rw [h]
theorem pcall_run {cf : Cfg} {n f : Nat} {args : List V} {r : Res} (h : resOf2 (evalCall cf n f args HS.none) = some r) : PCall cf f args = some r := by
  cases he : evalCall cf n f args HS.none with
  | none => rw [he] at h; cases h
  | some p => obtain ⟨r', h'⟩ := p; rw [he] at h; simp only [resOf2, Option.some.injEq] at h; subst h; exact pcall_of (Call_run he)

/-! ### small steps: one lemma for each way on; numbers -/
section
variable {cf : Cfg} {s s' : St2} {Q : Ex → St2 → Prop} {a b : LCode}
theorem then_normal (h : WC cf b s Q) : Then cf b Q .normal s := h
theorem then_exit {i : Nat} (h : Q (.exit i) s) : Then cf b Q (.exit i) s := h
theorem then_ret (h : Q .ret s) : Then cf b Q .ret s := h
theorem then_panic {v : V} (h : Q (.panic v) s) : Then cf b Q (.panic v) s := h
theorem out_normal {i : Nat} (h : Q .normal s) : Out2 i Q .normal s := h
theorem out_ret {i : Nat} (h : Q .ret s) : Out2 i Q .ret s := h
theorem out_panic {i : Nat} {v : V} (h : Q (.panic v) s) : Out2 i Q (.panic v) s := h
theorem out_same {i : Nat} (h : Q .normal s) : Out2 i Q (.exit i) s := by unfold Out2; simpa using h
theorem out_ne {i j : Nat} (hb : Nat.beq j i = false) (h : Q (.exit j) s) : Out2 i Q (.exit j) s := by unfold Out2; simpa [hb] using h
theorem round_next {k j : Nat} {I : Nat → St2 → Prop} (hj : j < k) (h : I j s) : Round k I Q .normal s := ⟨j, hj, h⟩
theorem round_exit {k i : Nat} {I : Nat → St2 → Prop} (h : Q (.exit i) s) : Round k I Q (.exit i) s := h
theorem round_ret {k : Nat} {I : Nat → St2 → Prop} (h : Q .ret s) : Round k I Q .ret s := h
theorem round_panic {k : Nat} {v : V} {I : Nat → St2 → Prop} (h : Q (.panic v) s) : Round k I Q (.panic v) s := h
/-- a loop's first round apart -/
theorem wc_unroll (h : WC cf a s (Then cf (.loop a) Q)) : WC cf (.loop a) s Q := fun t R => by
  obtain ⟨n, e, t1, s1, h1, R1, h3⟩ := h t R
  cases e with
  | normal =>
    obtain ⟨m, e2, t2, s2, h4, R2, h5⟩ := h3 t1 R1
    refine ⟨max n m + 1, e2, t2, s2, ?_, R2, h5⟩
    unfold evalCode iter
    rw [more (by omega) h1]
    simp only
    have h6 := more (by omega : m ≤ max n m) h4
    unfold evalCode at h6
    exact iter_mono (fun s r hs => evalCode_mono cf (evalCall_le cf (by omega)) (by omega) a s r hs) _ _ (by omega) _ _ h6
  | exit i => exact ⟨n + 1, _, t1, s1, by unfold evalCode iter; rw [more (by omega) h1], R1, h3⟩
  | ret => exact ⟨n + 1, _, t1, s1, by unfold evalCode iter; rw [more (by omega) h1], R1, h3⟩
  | panic v => exact ⟨n + 1, _, t1, s1, by unfold evalCode iter; rw [more (by omega) h1], R1, h3⟩
end
attribute [irreducible] WC Then Out2 Round
theorem nbeq (a b : Nat) : Nat.beq a b = decide (a = b) := by
  by_cases h : a = b
  · subst h; simp
  · rw [decide_eq_false h, Bool.eq_false_iff]; intro hb; exact h (Nat.eq_of_beq_eq_true hb)
theorem nble (a b : Nat) : Nat.ble a b = decide (a ≤ b) := by
  by_cases h : a ≤ b
  · rw [decide_eq_true h, Nat.ble_eq]; exact h
  · rw [decide_eq_false h, Bool.eq_false_iff]; intro hb; exact h (Nat.ble_eq.mp hb)
theorem nblt (a b : Nat) : Nat.blt a b = decide (a < b) := nble (a + 1) b
theorem wrap_i64 (n : Int) (h : -9223372036854775808 ≤ n ∧ n ≤ 9223372036854775807) : IntKind.i64.wrap n = n := IntWalk.i64_in n h
theorem wrap_i32 (n : Int) (h : -2147483648 ≤ n ∧ n ≤ 2147483647) : IntKind.i32.wrap n = n := IntWalk.i32_in n h
theorem wrap_u64 (n : Int) (h : 0 ≤ n ∧ n ≤ 18446744073709551615) : IntKind.u64.wrap n = n := IntWalk.u64_in n h
theorem wrap_u32 (n : Int) (h : 0 ≤ n ∧ n ≤ 4294967295) : IntKind.u32.wrap n = n := IntWalk.u32_in n h
theorem wrap_u8 (n : Int) (h : 0 ≤ n ∧ n ≤ 255) : IntKind.u8.wrap n = n := IntWalk.u8_in n h
end Go.Proofs.YthpggdlhoegndaaDoor.LM
