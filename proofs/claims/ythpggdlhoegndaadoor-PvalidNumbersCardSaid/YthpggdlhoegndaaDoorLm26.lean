/-
  RUNS OF OPERATIONS, in any order that may be drawn: what each touches is apart from the others'.
-/
import Derived.Test.YthpggdlhoegndaaDoorLm25
import Derived.Orders
set_option linter.all false
namespace Go.Proofs.YthpggdlhoegndaaDoor.LM
open Go

/-! ### two steps change places -/
theorem exec1_frame {x : Act1} {fr : Fr} {lo : List (Nat × List V)} {hs : HS} {t : St} {o : Out} (he : exec1 x ⟨fr, lo, hs⟩ = some (o, t)) (fr' : Fr) : exec1 x ⟨fr', lo, hs⟩ = some (o, ⟨fr', t.lo, t.hs⟩) := by
  cases x with
  | pure r => obtain ⟨rfl, rfl⟩ := exec_pure he; rfl
  | locR u f => obtain ⟨l, h1, h2, rfl⟩ := exec_locR he; simp only [exec1]; simp only at h1; rw [h1]; simp only [h2]
  | locW u f => obtain ⟨l, l', h1, h2, rfl⟩ := exec_locW he; simp only [exec1]; simp only at h1; rw [h1]; simp only [h2]
  | obR i f => obtain ⟨l, h1, h2, rfl⟩ := exec_obR he; simp only [exec1]; simp only at h1; rw [h1]; simp only [h2]
  | obs vs f =>
    simp only [exec1] at he ⊢
    split at he
    · simp only [Option.some.injEq, Prod.mk.injEq] at he
      obtain ⟨rfl, rfl⟩ := he
      simp_all
    · cases he
  | hpR f => obtain ⟨h1, rfl⟩ := exec_hpR he; simp only [exec1]; simp only at h1; rw [h1]
  | hpW f => obtain ⟨h', h1, rfl⟩ := exec_hpW he; simp only [exec1]; simp only at h1; rw [h1]
def Act1.isLoc : Act1 → Bool
  | .locR .. | .locW .. => true
  | _ => false
def Act1.isHp : Act1 → Bool
  | .obR .. | .obs .. | .hpR .. | .hpW .. => true
  | _ => false
def Act1.isRd : Act1 → Bool
  | .pure .. | .locR .. | .obR .. | .hpR .. => true
  | _ => false
theorem exec1_loc {x : Act1} (hx : x.isLoc = true) {fr : Fr} {lo : List (Nat × List V)} {hs : HS} {t : St} {o : Out} (he : exec1 x ⟨fr, lo, hs⟩ = some (o, t)) : t.hs = hs ∧ ∀ hs', exec1 x ⟨fr, lo, hs'⟩ = some (o, ⟨t.fr, t.lo, hs'⟩) := by
  cases x <;> first
    | (cases hx; done)
    | skip
  · obtain ⟨l, h1, h2, rfl⟩ := exec_locR he
    exact ⟨rfl, fun hs' => by simp only [exec1]; simp only at h1; rw [h1]; simp only [h2]⟩
  · obtain ⟨l, l', h1, h2, rfl⟩ := exec_locW he
    exact ⟨rfl, fun hs' => by simp only [exec1]; simp only at h1; rw [h1]; simp only [h2]⟩
theorem exec1_hp {x : Act1} (hx : x.isHp = true) {fr : Fr} {lo : List (Nat × List V)} {hs : HS} {t : St} {o : Out} (he : exec1 x ⟨fr, lo, hs⟩ = some (o, t)) : t.lo = lo ∧ ∀ lo', exec1 x ⟨fr, lo', hs⟩ = some (o, ⟨t.fr, lo', t.hs⟩) := by
  cases x <;> first
    | (cases hx; done)
    | skip
  · obtain ⟨l, h1, h2, rfl⟩ := exec_obR he
    exact ⟨rfl, fun lo' => by simp only [exec1]; simp only at h1; rw [h1]; simp only [h2]⟩
  · simp only [exec1] at he ⊢
    split at he
    · simp only [Option.some.injEq, Prod.mk.injEq] at he
      obtain ⟨rfl, rfl⟩ := he
      simp_all
    · cases he
  · obtain ⟨h1, rfl⟩ := exec_hpR he
    exact ⟨rfl, fun lo' => by simp only [exec1]; simp only at h1; rw [h1]⟩
  · obtain ⟨h', h1, rfl⟩ := exec_hpW he
    exact ⟨rfl, fun lo' => by simp only [exec1]; simp only at h1; rw [h1]⟩
theorem exec1_rd {x : Act1} (hx : x.isRd = true) {s t : St} {o : Out} (he : exec1 x s = some (o, t)) : t = s := by
  cases x <;> first
    | (cases hx; done)
    | skip
  · exact (exec_pure he).2
  · obtain ⟨l, h1, h2, rfl⟩ := exec_locR he; rfl
  · obtain ⟨l, h1, h2, rfl⟩ := exec_obR he; rfl
  · exact (exec_hpR he).2
theorem get_merge {l : List Nat} {g h : HS} {i : Nat} (hi : memN i l = false) : HS.get ⟨h.c, merge l g h.os⟩ i = h.get i := by
  show lookup i (merge l g h.os) = lookup i h.os
  rw [lookup_merge]
  split
  · rename_i o ho; rw [ho, hi]; rfl
  · rename_i ho; rw [ho]

/-- p, then q: they may change places -/
theorem exec_swap {p q : Act1} {fr : Fr} {lo : List (Nat × List V)} {hs : HS} {o1 o2 : Out} {t1 t2 : St} (h1 : exec1 p ⟨fr, lo, hs⟩ = some (o1, t1)) (h2 : exec1 q ⟨fr, t1.lo, t1.hs⟩ = some (o2, t2))
    (hok : Acc.ok (p.acc hs) (q.acc t1.hs) = true) :
    q.acc hs = q.acc t1.hs ∧ ∃ u, exec1 q ⟨fr, lo, hs⟩ = some (o2, u) ∧ p.acc u.hs = p.acc hs ∧ exec1 p ⟨fr, u.lo, u.hs⟩ = some (o1, ⟨fr, t2.lo, t2.hs⟩) := by
  have f1 : t1.fr = fr := exec1_fr h1
  have f2 : t2.fr = fr := exec1_fr h2
  -- both only read
  have rd : p.isRd = true → q.isRd = true → q.acc hs = q.acc t1.hs ∧ ∃ u, exec1 q ⟨fr, lo, hs⟩ = some (o2, u) ∧ p.acc u.hs = p.acc hs ∧ exec1 p ⟨fr, u.lo, u.hs⟩ = some (o1, ⟨fr, t2.lo, t2.hs⟩) := by
    intro a b
    have e1 := exec1_rd a h1
    subst e1
    have e2 := exec1_rd b h2
    subst e2
    exact ⟨rfl, _, h2, rfl, h1⟩
  -- one of locals, one of the others
  have lh : p.isLoc = true → q.isHp = true → q.acc hs = q.acc t1.hs ∧ ∃ u, exec1 q ⟨fr, lo, hs⟩ = some (o2, u) ∧ p.acc u.hs = p.acc hs ∧ exec1 p ⟨fr, u.lo, u.hs⟩ = some (o1, ⟨fr, t2.lo, t2.hs⟩) := by
    intro a b
    obtain ⟨e1, e2⟩ := exec1_loc a h1
    rw [e1] at h2 ⊢
    obtain ⟨e3, e4⟩ := exec1_hp b h2
    refine ⟨rfl, _, e4 lo, ?_, ?_⟩
    · cases p <;> first | rfl | (cases a; done)
    · rw [e2 t2.hs, f1, e3]
  have hl : p.isHp = true → q.isLoc = true → q.acc hs = q.acc t1.hs ∧ ∃ u, exec1 q ⟨fr, lo, hs⟩ = some (o2, u) ∧ p.acc u.hs = p.acc hs ∧ exec1 p ⟨fr, u.lo, u.hs⟩ = some (o1, ⟨fr, t2.lo, t2.hs⟩) := by
    intro a b
    obtain ⟨e1, e2⟩ := exec1_hp a h1
    rw [e1] at h2
    obtain ⟨e3, e4⟩ := exec1_loc b h2
    refine ⟨?_, _, e4 hs, rfl, ?_⟩
    · cases q <;> first | rfl | (cases b; done)
    · rw [e2 t2.lo, f1, e3]
  cases p with
  | pure r =>
    obtain ⟨rfl, rfl⟩ := exec_pure h1
    exact ⟨rfl, t2, h2, rfl, rfl⟩
  | locR t f => cases q with
    | pure r => exact rd rfl rfl
    | locR u g => exact rd rfl rfl
    | locW u g =>
      obtain ⟨l, a1, a2, rfl⟩ := exec_locR h1
      obtain ⟨m, m', b1, b2, rfl⟩ := exec_locW h2
      refine ⟨rfl, _, h2, rfl, ?_⟩
      simp only [Act1.acc, Acc.ok, Bool.not_eq_true'] at hok
      have hne : u ≠ t := fun e => by subst e; simp at hok
      simp only [exec1]
      simp only at a1
      rw [List.getElem?_set_ne hne, a1]; simp only [a2]
    | obR i g => exact lh rfl rfl
    | obs vs g => exact lh rfl rfl
    | hpR g => exact lh rfl rfl
    | hpW g => exact lh rfl rfl
  | locW t f => cases q with
    | pure r =>
      obtain ⟨rfl, rfl⟩ := exec_pure h2
      exact ⟨rfl, _, rfl, rfl, by rw [h1]; congr 2; cases t1; simp only at f1; subst f1; rfl⟩
    | locR u g =>
      obtain ⟨l, l', a1, a2, rfl⟩ := exec_locW h1
      obtain ⟨m, b1, b2, rfl⟩ := exec_locR h2
      simp only [Act1.acc, Acc.ok, Bool.not_eq_true'] at hok
      have hne : t ≠ u := fun e => by subst e; simp at hok
      simp only at b1 a1
      rw [List.getElem?_set_ne hne] at b1
      refine ⟨rfl, ⟨fr, lo, hs⟩, by simp only [exec1]; rw [b1]; simp only [b2], rfl, ?_⟩
      simp only [exec1]; rw [a1]; simp only [a2]
    | locW u g =>
      obtain ⟨l, l', a1, a2, rfl⟩ := exec_locW h1
      obtain ⟨m, m', b1, b2, rfl⟩ := exec_locW h2
      simp only [Act1.acc, Acc.ok, Bool.not_eq_true'] at hok
      have hne : t ≠ u := fun e => by subst e; simp at hok
      simp only at b1 a1
      rw [List.getElem?_set_ne hne] at b1
      refine ⟨rfl, ⟨fr, lo.set u m', hs⟩, by simp only [exec1]; rw [b1]; simp only [b2], rfl, ?_⟩
      simp only [exec1]
      rw [List.getElem?_set_ne (Ne.symm hne), a1]
      simp only [a2]
      rw [List.set_comm _ _ (Ne.symm hne)]
    | obR i g => exact lh rfl rfl
    | obs vs g => exact lh rfl rfl
    | hpR g => exact lh rfl rfl
    | hpW g => exact lh rfl rfl
  | obR i f => cases q with
    | pure r => exact rd rfl rfl
    | locR u g => exact hl rfl rfl
    | locW u g => exact hl rfl rfl
    | obR j g => exact rd rfl rfl
    | obs vs g =>
      obtain ⟨l, a1, a2, rfl⟩ := exec_obR h1
      refine ⟨rfl, t2, h2, rfl, ?_⟩
      simp only [Act1.acc, Acc.ok, Bool.not_eq_true'] at hok
      have e3 := exec1_hp rfl h2
      simp only [exec1] at h2
      split at h2
      · rename_i o h' ho
        simp only [Option.some.injEq, Prod.mk.injEq] at h2
        obtain ⟨rfl, rfl⟩ := h2
        simp only [exec1]
        simp only at a1
        rw [get_merge hok, a1]; simp only [a2]
      · cases h2
    | hpR g => exact rd rfl rfl
    | hpW g => cases hok
  | obs vs f => cases q with
    | pure r =>
      obtain ⟨rfl, rfl⟩ := exec_pure h2
      exact ⟨rfl, _, rfl, rfl, by rw [h1]; congr 2; cases t1; simp only at f1; subst f1; rfl⟩
    | locR u g => exact hl rfl rfl
    | locW u g => exact hl rfl rfl
    | obR j g =>
      obtain ⟨l, b1, b2, rfl⟩ := exec_obR h2
      simp only [Act1.acc, Acc.ok, Bool.not_eq_true'] at hok
      have h1' := h1
      simp only [exec1] at h1'
      split at h1'
      · rename_i o h' ho
        simp only [Option.some.injEq, Prod.mk.injEq] at h1'
        obtain ⟨rfl, rfl⟩ := h1'
        simp only at b1
        rw [get_merge hok] at b1
        exact ⟨rfl, ⟨fr, lo, hs⟩, by simp only [exec1]; rw [b1]; simp only [b2], rfl, h1⟩
      · cases h1'
    | obs ws g => cases hok
    | hpR g => cases hok
    | hpW g => cases hok
  | hpR f => cases q with
    | pure r => exact rd rfl rfl
    | locR u g => exact hl rfl rfl
    | locW u g => exact hl rfl rfl
    | obR j g => exact rd rfl rfl
    | obs vs g => cases hok
    | hpR g => exact rd rfl rfl
    | hpW g => cases hok
  | hpW f => cases q with
    | pure r =>
      obtain ⟨rfl, rfl⟩ := exec_pure h2
      exact ⟨rfl, _, rfl, rfl, by rw [h1]; congr 2; cases t1; simp only at f1; subst f1; rfl⟩
    | locR u g => exact hl rfl rfl
    | locW u g => exact hl rfl rfl
    | obR j g => cases hok
    | obs vs g => cases hok
    | hpR g => cases hok
    | hpW g => cases hok

section
variable {cf : Cfg} {ev : Ev}

def outV : Out → Option V
  | .val v => some v
  | .skip => some .undef
  | .panic _ => none
theorem oneOp_normal {o : LOper} {s s1 : St} (h : oneOp cf ev o s = some (.normal, s1)) :
    (wanted s.fr o.guard = false ∧ s1 = ⟨setD s.fr o.dst .undef, s.lo, s.hs⟩) ∨
    (wanted s.fr o.guard = true ∧ ∃ out v t, exec1 (plan cf ev o.dst o.op (o.xs.map (X.eval s.fr))) s = some (out, t) ∧ outV out = some v ∧ s1 = ⟨setD s.fr o.dst v, t.lo, t.hs⟩) := by
  unfold oneOp at h
  cases hw : wanted s.fr o.guard with
  | false =>
    rw [hw] at h
    simp only [cond_false, Option.some.injEq, Prod.mk.injEq, true_and] at h
    exact .inl ⟨rfl, h.symm⟩
  | true =>
    rw [hw] at h
    simp only [cond_true] at h
    split at h
    · rename_i r t ht
      simp only [Option.some.injEq] at h
      have hfr := exec1_fr ht
      cases r with
      | val v => simp only [putOut, Prod.mk.injEq, true_and] at h; exact .inr ⟨rfl, _, v, t, ht, rfl, by rw [← h, hfr]⟩
      | skip => simp only [putOut, Prod.mk.injEq, true_and] at h; exact .inr ⟨rfl, _, _, t, ht, rfl, by rw [← h, hfr]⟩
      | panic v => simp [putOut] at h
    · cases h
theorem oneOp_skip {o : LOper} {s : St} (hw : wanted s.fr o.guard = false) : oneOp cf ev o s = some (.normal, ⟨setD s.fr o.dst .undef, s.lo, s.hs⟩) := by
  unfold oneOp; rw [hw]; rfl
theorem oneOp_run {o : LOper} {s t : St} {out : Out} {v : V} (hw : wanted s.fr o.guard = true) (he : exec1 (plan cf ev o.dst o.op (o.xs.map (X.eval s.fr))) s = some (out, t)) (hv : outV out = some v) :
    oneOp cf ev o s = some (.normal, ⟨setD s.fr o.dst v, t.lo, t.hs⟩) := by
  unfold oneOp
  rw [hw]
  simp only [cond_true, he]
  have hfr := exec1_fr he
  cases out <;> simp only [outV, Option.some.injEq] at hv <;> first
    | (subst hv; simp only [putOut, hfr])
    | (cases hv; done)

/-! ### temporaries -/
theorem reads_guard {o : LOper} {t : Nat} {b : Bool} (h : o.guard = some (t, b)) : t ∈ o.reads := by
  unfold LOper.reads; rw [h]; simp
theorem reads_x {o : LOper} {t : Nat} (h : X.t t ∈ o.xs) : t ∈ o.reads := by
  unfold LOper.reads
  refine List.mem_append_right _ (List.mem_filterMap.2 ⟨_, h, rfl⟩)
theorem getD_setD {fr : Fr} {d : Option Nat} {v : V} {t : Nat} (h : ∀ e, d = some e → e ≠ t) : (setD fr d v).get t = fr.get t := by
  cases d with
  | none => rfl
  | some e => exact Fr.get_set_other (h e rfl)
theorem wanted_setD {o : LOper} {fr : Fr} {d : Option Nat} {v : V} (h : ∀ e, d = some e → e ∉ o.reads) : wanted (setD fr d v) o.guard = wanted fr o.guard := by
  cases hg : o.guard with
  | none => rfl
  | some p =>
    obtain ⟨t, b⟩ := p
    simp only [wanted]
    rw [getD_setD fun e he ht => h e he (by subst ht; exact reads_guard hg)]
theorem xs_setD {o : LOper} {fr : Fr} {d : Option Nat} {v : V} (h : ∀ e, d = some e → e ∉ o.reads) : o.xs.map (X.eval (setD fr d v)) = o.xs.map (X.eval fr) := by
  apply List.map_congr_left
  intro x hx
  cases x with
  | t n =>
    simp only [X.eval]
    exact getD_setD fun e he ht => h e he (by subst ht; exact reads_x hx)
  | c v => rfl
theorem apart_spec {a b : LOper} (h : apartTmps a b = true) : (∀ e, a.dst = some e → e ∉ b.reads) ∧ (∀ e, b.dst = some e → e ∉ a.reads) ∧ ∀ e, a.dst = some e → b.dst ≠ some e := by
  unfold apartTmps at h
  rw [Bool.and_eq_true] at h
  obtain ⟨h1, h2⟩ := h
  refine ⟨fun e he hm => ?_, fun e he hm => ?_, fun e he hb => ?_⟩
  · rw [he] at h1
    simp only [Bool.and_eq_true, Bool.not_eq_true', List.contains_eq_mem, decide_eq_false_iff_not] at h1
    exact h1.1 hm
  · rw [he] at h2
    simp only [Bool.not_eq_true', List.contains_eq_mem, decide_eq_false_iff_not] at h2
    exact h2 hm
  · rw [he, hb] at h1
    simp only [Bool.and_eq_true, Bool.not_eq_true', beq_self_eq_true] at h1
    cases h1.2
theorem Tr.set_comm : ∀ (d : Nat) (t : Tr) (i j : Nat) (x y : V), i ≠ j → Tr.set d (Tr.set d t i x) j y = Tr.set d (Tr.set d t j y) i x
  | 0, t, i, j, x, y, h => rfl
  | d + 1, t, i, j, x, y, h => by
    obtain ⟨v, l, r, hs, hg⟩ := tr_node t
    rw [hs, hs]
    cases h0 : Nat.beq i 0 with
    | true =>
      have hj : Nat.beq j 0 = false := by rw [Bool.eq_false_iff]; intro hb; exact h ((beq_nat h0).trans (beq_nat hb).symm)
      cases h2 : Nat.beq (Nat.mod j 2) 1 <;> simp only [Tr.set, h0, cond_true, hj, cond_false, h2]
    | false =>
      cases hj : Nat.beq j 0 with
      | true => cases h1 : Nat.beq (Nat.mod i 2) 1 <;> simp only [Tr.set, h0, h1, cond_true, cond_false, hj]
      | false =>
        cases h1 : Nat.beq (Nat.mod i 2) 1 <;> cases h2 : Nat.beq (Nat.mod j 2) 1 <;> simp only [Tr.set, h0, h1, cond_true, cond_false, hj, h2]
        · rw [Tr.set_comm d r _ _ x y]
          have hne := idx_ne h h0 hj (by rw [h1, h2])
          have z1 := beq_zero_false h0
          have z2 := beq_zero_false hj
          have e3 : Nat.mod i 2 = i % 2 := rfl
          have e4 : Nat.mod j 2 = j % 2 := rfl
          have e1 : Nat.div i 2 = i / 2 := rfl
          have e2 : Nat.div j 2 = j / 2 := rfl
          have m1 : i % 2 ≠ 1 := fun e => by rw [e3, e] at h1; cases h1
          have m2 : j % 2 ≠ 1 := fun e => by rw [e4, e] at h2; cases h2
          rw [e1, e2] at hne ⊢
          omega
        · rw [Tr.set_comm d l _ _ x y (idx_ne h h0 hj (by rw [h1, h2]))]
theorem Fr.set_comm {f : Fr} {i j : Nat} {x y : V} (h : i ≠ j) : (f.set i x).set j y = (f.set j y).set i x := by
  cases h1 : Nat.blt i f.n <;> cases h2 : Nat.blt j f.n <;> simp only [Fr.set, h1, h2, cond_true, cond_false]
  rw [Tr.set_comm 12 _ _ _ _ _ h]
theorem setD_comm {fr : Fr} {d e : Option Nat} {v u : V} (h : ∀ x, d = some x → e ≠ some x) : setD (setD fr d v) e u = setD (setD fr e u) d v := by
  cases d with
  | none => rfl
  | some d => cases e with
    | none => rfl
    | some e => exact Fr.set_comm (fun hde => h d rfl (by rw [hde]))

/-! ### two operations change places -/
theorem op_swap {x y : LOper} {s s1 s2 : St} {A B : Acc} (ha : accOf cf ev x s = A) (h1 : oneOp cf ev x s = some (.normal, s1)) (hb : accOf cf ev y s1 = B) (h2 : oneOp cf ev y s1 = some (.normal, s2))
    (hap : apartTmps x y = true) (hok : Acc.ok A B = true) : ∃ t, accOf cf ev y s = B ∧ oneOp cf ev y s = some (.normal, t) ∧ accOf cf ev x t = A ∧ oneOp cf ev x t = some (.normal, s2) := by
  obtain ⟨p1, p2, p3⟩ := apart_spec hap
  subst ha hb
  have wy : ∀ v, wanted (setD s.fr x.dst v) y.guard = wanted s.fr y.guard := fun v => wanted_setD p1
  have wx : ∀ v, wanted (setD s.fr y.dst v) x.guard = wanted s.fr x.guard := fun v => wanted_setD p2
  have ey : ∀ v, y.xs.map (X.eval (setD s.fr x.dst v)) = y.xs.map (X.eval s.fr) := fun v => xs_setD p1
  have ex : ∀ v, x.xs.map (X.eval (setD s.fr y.dst v)) = x.xs.map (X.eval s.fr) := fun v => xs_setD p2
  rcases oneOp_normal h1 with ⟨w1, rfl⟩ | ⟨w1, o1, v1, t1, e1, q1, rfl⟩
  · rcases oneOp_normal h2 with ⟨w2, rfl⟩ | ⟨w2, o2, v2, t2, e2, q2, rfl⟩
    · simp only at w2
      rw [wy] at w2
      refine ⟨_, ?_, oneOp_skip w2, ?_, ?_⟩
      · unfold accOf; simp only [wy, ey]
      · unfold accOf; simp only [wx, w1, cond_false]
      · rw [oneOp_skip (by simp only [wx]; exact w1)]
        simp only [setD_comm p3]
    · simp only at w2 e2
      rw [wy] at w2
      rw [ey] at e2
      have e2' := exec1_frame e2 s.fr
      refine ⟨_, ?_, oneOp_run w2 e2' q2, ?_, ?_⟩
      · unfold accOf; simp only [wy, ey]
      · unfold accOf; simp only [wx, w1, cond_false]
      · rw [oneOp_skip (by simp only [wx]; exact w1)]
        simp only [setD_comm p3]
  · rcases oneOp_normal h2 with ⟨w2, rfl⟩ | ⟨w2, o2, v2, t2, e2, q2, rfl⟩
    · simp only at w2
      rw [wy] at w2
      refine ⟨_, ?_, oneOp_skip w2, ?_, ?_⟩
      · unfold accOf; simp only [wy, w2, cond_false]
      · unfold accOf; simp only [wx, ex]
      · have e1' := exec1_frame e1 (setD s.fr y.dst .undef)
        have := oneOp_run (o := x) (s := ⟨setD s.fr y.dst .undef, s.lo, s.hs⟩) (by simp only [wx]; exact w1) (by simp only [ex]; exact e1') q1
        rw [this]
        simp only [setD_comm p3]
    · simp only at w2 e2
      rw [wy] at w2
      rw [ey] at e2
      have e2' := exec1_frame e2 s.fr
      have hok' : Acc.ok ((plan cf ev x.dst x.op (x.xs.map (X.eval s.fr))).acc s.hs) ((plan cf ev y.dst y.op (y.xs.map (X.eval s.fr))).acc t1.hs) = true := by
        unfold accOf at hok
        simp only [w1, wy, w2, cond_true, ey] at hok
        exact hok
      obtain ⟨g1, u, g2, g3, g4⟩ := exec_swap (fr := s.fr) (lo := s.lo) (hs := s.hs) e1 e2' hok'
      refine ⟨_, ?_, oneOp_run w2 g2 q2, ?_, ?_⟩
      · unfold accOf; simp only [wy, w2, cond_true, ey]; exact g1
      · unfold accOf; simp only [wx, w1, cond_true, ex]; exact g3
      · have g4' := exec1_frame g4 (setD s.fr y.dst v2)
        have := oneOp_run (o := x) (s := ⟨setD s.fr y.dst v2, u.lo, u.hs⟩) (by simp only [wx]; exact w1) (by simp only [ex]; exact g4') q1
        rw [this]
        simp only [setD_comm p3]
end
end Go.Proofs.YthpggdlhoegndaaDoor.LM
