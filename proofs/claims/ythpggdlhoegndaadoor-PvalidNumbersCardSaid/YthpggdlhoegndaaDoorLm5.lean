/-
  STEPS OF THE LOGICAL STATE, on: what lies behind a number: a new one, a store, a row that grows, what is stilled.
-/
import Derived.Test.YthpggdlhoegndaaDoorLm4
set_option linter.all false
namespace Go.Proofs.YthpggdlhoegndaaDoor.LM
open Go

/-! ### a new object -/
def updR (f : Nat → Value) (i : Nat) (x : Value) : Nat → Value := fun j => if j = i then x else f j
def Ctx.newOb (k : Ctx) (o : Ob) (x : Value) (b : Go.Obj) : Ctx :=
  { k with w := k.w.alloc b, pl := upd k.pl (.o k.h.c) k.w.heap.size, rho := updR k.rho k.h.c x, h := k.h.new o }
section
variable {k : Ctx} {o : Ob} {x : Value} {b : Go.Obj}
theorem C_newOb (c i : Nat) (y : Value) (h : k.C c i y) : (k.newOb o x b).C c i y := ⟨h.1, cell_alloc h.2⟩
theorem I_newOb (v : V) (y : Value) (h : k.I v y) : (k.newOb o x b).I v y := by
  have key : ∀ i, i < k.h.c → (k.h.new o).get i = k.h.get i ∧ upd k.pl (.o k.h.c) k.w.heap.size (.o i) = k.pl (.o i) ∧ updR k.rho k.h.c x i = k.rho i := fun i hi =>
    ⟨HS.get_new_other (by omega), upd_other (fun e => by injection e; omega), if_neg (by omega)⟩
  cases v <;> try exact h
  · obtain ⟨h0, hi, h2⟩ := h
    obtain ⟨a1, a2, a3⟩ := key _ hi
    refine ⟨h0, Nat.lt_succ_of_lt hi, fun cs fz hg => ?_⟩
    simp only [Ctx.newOb] at hg ⊢; rw [a1] at hg; rw [a2]; exact h2 cs fz hg
  · obtain ⟨h0, hi, h2⟩ := h
    obtain ⟨a1, a2, a3⟩ := key _ hi
    refine ⟨h0, Nat.lt_succ_of_lt hi, fun xs sz fz hg => ?_⟩
    simp only [Ctx.newOb] at hg ⊢; rw [a1] at hg; rw [a2]; exact h2 xs sz fz hg
  · obtain ⟨h0, hi, h2⟩ := h
    obtain ⟨a1, a2, a3⟩ := key _ hi
    refine ⟨h0, Nat.lt_succ_of_lt hi, fun xs sz fz hg => ?_⟩
    simp only [Ctx.newOb] at hg ⊢; rw [a1] at hg; rw [a3]; exact h2 xs sz fz hg
  · obtain ⟨h0, hi, h2⟩ := h
    obtain ⟨a1, a2, a3⟩ := key _ hi
    refine ⟨h0, Nat.lt_succ_of_lt hi, fun es hg => ?_⟩
    simp only [Ctx.newOb] at hg ⊢; rw [a1] at hg; rw [a2]; exact h2 es hg
theorem ob_newOb (q : Key) : (k.newOb o x b).ob q = if q = .o k.h.c then some o else k.ob q := by
  cases q with
  | l t => simp [Ctx.ob, Ctx.newOb]
  | o i =>
    by_cases hi : i = k.h.c
    · subst hi; simp [Ctx.ob, Ctx.newOb, HS.get_new_same]
    · simp [Ctx.ob, Ctx.newOb, HS.get_new_other hi, hi]
theorem ok_newOb (hk : OK k) (ho : objAt (k.newOb o x b) (.o k.h.c) o) : OK (k.newOb o x b) where
  lt := fun c i hs => by
    show c < (k.w.alloc _).heap.size
    rw [World.size_alloc]; have := hk.lt c i hs; omega
  low := fun i p hi => by
    show i < k.h.c + 1
    have hi' : (k.h.new o).get i = some p := hi
    by_cases e : i = k.h.c
    · omega
    · rw [HS.get_new_other e] at hi'; have := hk.low i p hi'; omega
  place := fun q p hq => by
    show upd k.pl (.o k.h.c) k.w.heap.size q < (k.w.alloc _).heap.size
    rw [World.size_alloc]
    rw [ob_newOb] at hq
    by_cases h1 : q = .o k.h.c
    · subst h1; rw [upd_same]; omega
    · rw [if_neg h1] at hq; rw [upd_other h1]; have := hk.place q p hq; omega
  at_ := fun q p hq => by
    rw [ob_newOb] at hq
    by_cases h1 : q = .o k.h.c
    · subst h1; simp only [if_pos, Option.some.injEq] at hq; subst hq; exact ho
    · rw [if_neg h1] at hq
      have hp := hk.place q p hq
      refine objAt_keep C_newOb (I_newOb) (hk.at_ q p hq) (upd_other h1) (heap_alloc_old _ _ _ hp) (fun i e => ?_) (fun _ => Iff.rfl)
      subst e
      exact if_neg (fun e => h1 (by rw [e]))
  inj := fun q r p p' hq hr he => by
    rw [ob_newOb] at hq hr
    have he' : upd k.pl (.o k.h.c) k.w.heap.size q = upd k.pl (.o k.h.c) k.w.heap.size r := he
    by_cases h1 : q = .o k.h.c
    · by_cases h2 : r = .o k.h.c
      · rw [h1, h2]
      · rw [if_neg h2] at hr
        rw [h1, upd_same, upd_other h2] at he'
        have := hk.place r p' hr; omega
    · rw [if_neg h1] at hq
      by_cases h2 : r = .o k.h.c
      · rw [h2, upd_same, upd_other h1] at he'
        have := hk.place q p hq; omega
      · rw [if_neg h2] at hr
        rw [upd_other h1, upd_other h2] at he'
        exact hk.inj q r p p' hq hr he'
theorem ext_newOb : Ext k (k.newOb o x b) where
  os := rfl
  tape := rfl
  output := rfl
  size := by show _ ≤ (k.w.alloc _).heap.size; rw [World.size_alloc]; omega
  C := C_newOb
  I := I_newOb
  frame := fun c hc _ => ⟨heap_alloc_old _ _ _ hc, fun i hs => hs⟩
  own := fun c hc ⟨q, p, hq, he⟩ => by
    rw [ob_newOb] at hq
    by_cases h1 : q = .o k.h.c
    · subst h1
      have : (k.newOb o x b).pl (.o k.h.c) = k.w.heap.size := upd_same _ _ _
      omega
    · rw [if_neg h1] at hq
      exact ⟨q, p, hq, (upd_other (f := k.pl) (b := k.w.heap.size) h1).symm.trans he⟩
end

/-! ### an object of one's own is written over (its place stays) -/
/-- q's object is p now, its block b; S may grow by cells of that block. -/
def Ctx.put (k : Ctx) (lo : List (Nat × List V)) (h : HS) (w : World) (S : Nat → Nat → Prop) (rho : Nat → Value) : Ctx := ⟨S, k.pl, rho, lo, h, w⟩
structure Put (k k' : Ctx) (q : Key) (o p : Ob) : Prop where
  ok : OK k
  was : k.ob q = some o
  ob : ∀ r, k'.ob r = if r = q then some p else k.ob r
  pl : k'.pl = k.pl
  c : k'.h.c = k.h.c
  rho : ∀ i, q ≠ .o i → k'.rho i = k.rho i
  heap : ∀ b, b ≠ k.pl q → k'.w.heap[b]? = k.w.heap[b]?
  size : k'.w.heap.size = k.w.heap.size
  S : ∀ b o, b ≠ k.pl q → (k'.S b o ↔ k.S b o)
  C : ∀ b i x, k.C b i x → k'.C b i x
  I : ∀ v x, k.I v x → k'.I v x
theorem Put.keep {k k' : Ctx} {q : Key} {o p : Ob} (u : Put k k' q o p) (hp : objAt k' q p) : OK k' where
  lt := fun b i hs => by
    by_cases hb : b = k.pl q
    · have := u.ok.place q o u.was; rw [u.size]; omega
    · rw [u.size]; exact u.ok.lt b i ((u.S b i hb).1 hs)
  low := fun i r hr => by
    rw [u.c]
    have h1 : k'.ob (.o i) = some r := hr
    rw [u.ob] at h1
    by_cases e : (Key.o i) = q
    · have hw := u.was; rw [← e] at hw; exact u.ok.low i o hw
    · rw [if_neg e] at h1; exact u.ok.low i r h1
  place := fun r y hr => by
    rw [u.pl, u.size]
    rw [u.ob] at hr
    by_cases e : r = q
    · subst e; exact u.ok.place r o u.was
    · rw [if_neg e] at hr; exact u.ok.place r y hr
  at_ := fun r y hr => by
    rw [u.ob] at hr
    by_cases e : r = q
    · subst e; simp only [if_pos, Option.some.injEq] at hr; subst hr; exact hp
    · rw [if_neg e] at hr
      have hne : k.pl r ≠ k.pl q := fun he => e (u.ok.inj r q y o hr u.was he)
      exact objAt_keep u.C u.I (u.ok.at_ r y hr) (by rw [u.pl]) (u.heap _ hne) (fun i hi => u.rho i (fun e' => e (by rw [hi, e']))) (fun i => u.S _ i hne)
  inj := fun r s y z hr hs he => by
    rw [u.pl] at he
    have a1 : ∃ y, k.ob r = some y := by
      rw [u.ob] at hr
      by_cases e : r = q
      · subst e; exact ⟨o, u.was⟩
      · rw [if_neg e] at hr; exact ⟨y, hr⟩
    have a2 : ∃ y, k.ob s = some y := by
      rw [u.ob] at hs
      by_cases e : s = q
      · subst e; exact ⟨o, u.was⟩
      · rw [if_neg e] at hs; exact ⟨z, hs⟩
    obtain ⟨y1, h1⟩ := a1
    obtain ⟨y2, h2⟩ := a2
    exact u.ok.inj r s y1 y2 h1 h2 he
theorem Put.ext {k k' : Ctx} {q : Key} {o p : Ob} (u : Put k k' q o p) (h1 : k'.w.os = k.w.os) (h2 : k'.w.tape = k.w.tape) (h3 : k'.w.output = k.w.output) : Ext k k' where
  os := h1
  tape := h2
  output := h3
  size := Nat.le_of_eq u.size.symm
  C := u.C
  I := u.I
  frame := fun b _ hn => by
    have hne : b ≠ k.pl q := fun e => hn ⟨q, o, u.was, e.symm⟩
    exact ⟨u.heap b hne, fun i hs => (u.S b i hne).1 hs⟩
  own := fun b _ ⟨r, y, hr, he⟩ => by
    rw [u.pl] at he
    rw [u.ob] at hr
    by_cases e : r = q
    · subst e; exact ⟨r, o, u.was, he⟩
    · rw [if_neg e] at hr; exact ⟨r, y, hr, he⟩

/-! the same for an object that moves to new memory -/
structure Move (k k' : Ctx) (i : Nat) (o p : Ob) : Prop where
  ok : OK k
  was : k.h.get i = some o
  ob : ∀ r, k'.ob r = if r = .o i then some p else k.ob r
  pl : k'.pl = upd k.pl (.o i) k.w.heap.size
  c : k'.h.c = k.h.c
  rho : ∀ j, j ≠ i → k'.rho j = k.rho j
  heap : ∀ b, b < k.w.heap.size → k'.w.heap[b]? = k.w.heap[b]?
  size : k'.w.heap.size = k.w.heap.size + 1
  S : ∀ b o, k'.S b o ↔ k.S b o
  C : ∀ b i x, k.C b i x → k'.C b i x
  I : ∀ v x, k.I v x → k'.I v x
theorem Move.keep {k k' : Ctx} {i : Nat} {o p : Ob} (u : Move k k' i o p) (hp : objAt k' (.o i) p) : OK k' where
  lt := fun b j hs => by rw [u.size]; have := u.ok.lt b j ((u.S b j).1 hs); omega
  low := fun j r hr => by
    rw [u.c]
    have h1 : k'.ob (.o j) = some r := hr
    rw [u.ob] at h1
    by_cases e : (Key.o j) = .o i
    · injection e with e; subst e; exact u.ok.low j o u.was
    · rw [if_neg e] at h1; exact u.ok.low j r h1
  place := fun r y hr => by
    rw [u.pl, u.size]
    rw [u.ob] at hr
    by_cases e : r = .o i
    · subst e; rw [upd_same]; omega
    · rw [if_neg e] at hr; rw [upd_other e]; have := u.ok.place r y hr; omega
  at_ := fun r y hr => by
    rw [u.ob] at hr
    by_cases e : r = .o i
    · subst e; simp only [if_pos, Option.some.injEq] at hr; subst hr; exact hp
    · rw [if_neg e] at hr
      exact objAt_keep u.C u.I (u.ok.at_ r y hr) (by rw [u.pl, upd_other e]) (u.heap _ (u.ok.place r y hr)) (fun j hj => u.rho j (fun e' => e (by rw [hj, e']))) (fun j => u.S _ j)
  inj := fun r s y z hr hs he => by
    rw [u.pl] at he
    rw [u.ob] at hr hs
    by_cases e1 : r = .o i
    · by_cases e2 : s = .o i
      · rw [e1, e2]
      · rw [if_neg e2] at hs
        rw [e1, upd_same, upd_other e2] at he
        have := u.ok.place s z hs; omega
    · rw [if_neg e1] at hr
      by_cases e2 : s = .o i
      · rw [e2, upd_same, upd_other e1] at he
        have := u.ok.place r y hr; omega
      · rw [if_neg e2] at hs
        rw [upd_other e1, upd_other e2] at he
        exact u.ok.inj r s y z hr hs he
theorem Move.ext {k k' : Ctx} {i : Nat} {o p : Ob} (u : Move k k' i o p) (h1 : k'.w.os = k.w.os) (h2 : k'.w.tape = k.w.tape) (h3 : k'.w.output = k.w.output) : Ext k k' where
  os := h1
  tape := h2
  output := h3
  size := by rw [u.size]; omega
  C := u.C
  I := u.I
  frame := fun b hb _ => ⟨u.heap b hb, fun j hs => (u.S b j).1 hs⟩
  own := fun b hb ⟨r, y, hr, he⟩ => by
    rw [u.pl] at he
    rw [u.ob] at hr
    by_cases e : r = .o i
    · subst e; rw [upd_same] at he; omega
    · rw [if_neg e] at hr; rw [upd_other e] at he; exact ⟨r, y, hr, he⟩
end Go.Proofs.YthpggdlhoegndaaDoor.LM
