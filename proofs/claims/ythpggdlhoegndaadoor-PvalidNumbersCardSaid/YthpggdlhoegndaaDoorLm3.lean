/-
  WHAT IS MEANT by a logical value, and by a logical state, in the model's memory; what is kept from one state to a later one.
-/
import Derived.Test.YthpggdlhoegndaaDoorLm2
import Derived.Laws.Rows
import Derived.Laws.Tables
import Derived.Laws.CopyRow
import Derived.Laws.Append
set_option linter.all false
namespace Go.Proofs.YthpggdlhoegndaaDoor.LM
open Go

theorem mapO_some {α β : Type} {f : α → Option β} : ∀ {l : List α} {s : List β}, mapO f l = some s →
    s.length = l.length ∧ ∀ (i : Nat) (a : α), l[i]? = some a → ∃ b, f a = some b ∧ s[i]? = some b
  | [], s, h => by simp only [mapO, Option.some.injEq] at h; subst h; simp
  | a :: r, s, h => by
    simp only [mapO] at h
    split at h
    · rename_i b hb
      split at h
      · rename_i s' hs
        simp only [Option.some.injEq] at h
        subst h
        obtain ⟨hl, hi⟩ := mapO_some hs
        refine ⟨by simp [hl], ?_⟩
        intro i x hx
        cases i with
        | zero => simp at hx; subst hx; exact ⟨b, hb, rfl⟩
        | succ i => simpa using hi i x (by simpa using hx)
      · cases h
    · cases h

abbrev Cell := Nat → Nat → Value → Prop

/-- A pure value, read in cells that stay. -/
inductive PR (C : Cell) : V → Value → Prop
  | bool (b : Bool) : PR C (.bool b) (.bool b)
  | int (k : IntKind) (n : Int) : PR C (.int k n) (.int k n)
  | float (k : FloatKind) (b : Nat) : PR C (.float k b) (.float k b)
  | str {s : List UInt8} {b : ByteArray} (h : b.data.toList = s) : PR C (.str s) (.string b)
  | nilp : PR C .nilp (.pointer none)
  | nilmap : PR C .nilmap (.map none)
  | nilfunc : PR C .nilfunc .nilFunc
  | nilif : PR C .nilif .nilIface
  | cptr {cs : List V} {off b o : Nat} {vals : Nat → Value} (hc : ∀ (j : Nat) (v : V), cs[j]? = some v → C b (o + j) (vals j))
      (hp : ∀ (j : Nat) (v : V), cs[j]? = some v → PR C v (vals j)) : PR C (.cptr cs off) (.pointer (some ⟨b, o + off, none⟩))
  | slice {xs : List V} {full : Bool} {a : Option Addr} {cap sz b o : Nat} {vals : Nat → Value} (hcap : xs.length ≤ cap) (hf : full = true → cap = xs.length)
      (ha : 0 < xs.length → a = some ⟨b, o, none⟩) (hsz : ∀ (i : Nat) (v : V), xs[i]? = some v → v.cells.length = sz)
      (hc : ∀ (i : Nat) (v : V) (j : Nat) (u : V), xs[i]? = some v → v.cells[j]? = some u → C b (o + (i * sz + j)) (vals (i * sz + j)))
      (hp : ∀ (i : Nat) (v : V) (j : Nat) (u : V), xs[i]? = some v → v.cells[j]? = some u → PR C u (vals (i * sz + j))) : PR C (.slice xs full) (.slice a xs.length cap)
  | func {f : Nat} {caps : List V} {caps' : Array Value} (hl : caps'.size = caps.length) (hp : ∀ (i : Nat) (v : V) (x : Value), caps[i]? = some v → caps'[i]? = some x → PR C v x) :
      PR C (.func f caps) (.func (.func f) #[] caps')
  | iface {t : Nat} {v : V} {x : Value} (h : PR C v x) : PR C (.iface t v) (.iface t x)
  | agg {cs : List V} {cs' : Array Value} (hl : cs'.size = cs.length) (hp : ∀ (i : Nat) (v : V) (x : Value), cs[i]? = some v → cs'[i]? = some x → PR C v x) : PR C (.agg cs) (.agg cs')
  | tuple {cs : List V} {cs' : Array Value} (hl : cs'.size = cs.length) (hp : ∀ (i : Nat) (v : V) (x : Value), cs[i]? = some v → cs'[i]? = some x → PR C v x) : PR C (.tuple cs) (.tuple cs')

theorem PR.mono {C D : Cell} (h : ∀ b o x, C b o x → D b o x) {v : V} {x : Value} (p : PR C v x) : PR D v x := by
  induction p with
  | bool b => exact .bool b
  | int k n => exact .int k n
  | float k b => exact .float k b
  | str h => exact .str h
  | nilp => exact .nilp
  | nilmap => exact .nilmap
  | nilfunc => exact .nilfunc
  | nilif => exact .nilif
  | cptr hc _ ih => exact .cptr (fun j v hj => h _ _ _ (hc j v hj)) ih
  | slice hcap hf ha hsz hc _ ih => exact .slice hcap hf ha hsz (fun i v j u hi hj => h _ _ _ (hc i v j u hi hj)) ih
  | func hl _ ih => exact .func hl ih
  | iface _ ih => exact .iface ih
  | agg hl _ ih => exact .agg hl ih
  | tuple hl _ ih => exact .tuple hl ih

/-- what can be written lies behind a key -/
inductive Key where
  | l (t : Nat) | o (i : Nat)
  deriving DecidableEq

structure Ctx where
  S : Nat → Nat → Prop
  pl : Key → Nat
  rho : Nat → Value
  lo : List (Nat × List V)
  h : HS
  w : World

namespace Ctx
variable (k : Ctx)

def C : Cell := fun b o x => k.S b o ∧ k.w.cell? ⟨b, o, none⟩ = some x

def ob : Key → Option Ob
  | .l t => match k.lo[t]? with
    | some (g, cs) => if g = 0 then none else some (.cells cs false)
    | none => none
  | .o i => k.h.get i

def own (b : Nat) : Prop := ∃ q o, k.ob q = some o ∧ k.pl q = b

/-- what the numbers mean -/
def I : V → Value → Prop
  | .undef, x => x = Go.undef
  | .loc t g off, x => (∃ b o, x = .pointer (some ⟨b, o, none⟩)) ∧ ∃ g' cs, k.lo[t]? = some (g', cs) ∧ 0 < g ∧ g ≤ g' ∧ (g = g' → x = .pointer (some ⟨k.pl (.l t), off, none⟩))
  | .ref i off, x => (∃ b o, x = .pointer (some ⟨b, o, none⟩)) ∧ i < k.h.c ∧ ∀ cs fz, k.h.get i = some (.cells cs fz) → x = .pointer (some ⟨k.pl (.o i), off, none⟩)
  | .rptr i e idx off, x => (∃ b o, x = .pointer (some ⟨b, o, none⟩)) ∧ i < k.h.c ∧ ∀ xs sz fz, k.h.get i = some (.row xs sz fz) → e ≤ xs.length ∧ (e = xs.length → x = .pointer (some ⟨k.pl (.o i), idx * sz + off, none⟩))
  | .row i e, x => (∃ a cap, x = .slice a e cap) ∧ i < k.h.c ∧ ∀ xs sz fz, k.h.get i = some (.row xs sz fz) → e ≤ xs.length ∧ (e = xs.length → x = k.rho i)
  | .map i, x => (∃ r, x = .map r) ∧ i < k.h.c ∧ ∀ es, k.h.get i = some (.map es) → x = .map (some (k.pl (.o i)))
  | _, _ => False

end Ctx

inductive VR (k : Ctx) : V → Value → Prop
  | pure {v : V} {x : Value} (h : PR k.C v x) : VR k v x
  | atom {v : V} {x : Value} (h : k.I v x) : VR k v x
  | func {f : Nat} {caps : List V} {caps' : Array Value} (hl : caps'.size = caps.length) (hp : ∀ (i : Nat) (v : V) (x : Value), caps[i]? = some v → caps'[i]? = some x → VR k v x) :
      VR k (.func f caps) (.func (.func f) #[] caps')
  | iface {t : Nat} {v : V} {x : Value} (h : VR k v x) : VR k (.iface t v) (.iface t x)
  | agg {cs : List V} {cs' : Array Value} (hl : cs'.size = cs.length) (hp : ∀ (i : Nat) (v : V) (x : Value), cs[i]? = some v → cs'[i]? = some x → VR k v x) : VR k (.agg cs) (.agg cs')
  | tuple {cs : List V} {cs' : Array Value} (hl : cs'.size = cs.length) (hp : ∀ (i : Nat) (v : V) (x : Value), cs[i]? = some v → cs'[i]? = some x → VR k v x) : VR k (.tuple cs) (.tuple cs')

theorem VR.mono {k k' : Ctx} (hC : ∀ b o x, k.C b o x → k'.C b o x) (hI : ∀ v x, k.I v x → k'.I v x) {v : V} {x : Value} (p : VR k v x) : VR k' v x := by
  induction p with
  | pure h => exact .pure (h.mono hC)
  | atom h => exact .atom (hI _ _ h)
  | func hl _ ih => exact .func hl ih
  | iface _ ih => exact .iface ih
  | agg hl _ ih => exact .agg hl ih
  | tuple hl _ ih => exact .tuple hl ih

/-- so many cells of a block -/
def cellsAt (k : Ctx) (b : Nat) (cs : List V) : Prop :=
  ∃ arr ty, k.w.heap[b]? = some (.cells arr ty (0, 0)) ∧ arr.size = cs.length ∧ ∀ (j : Nat) (v : V) (x : Value), cs[j]? = some v → arr[j]? = some x → VR k v x ∧ x.oneCell' = true

def keyAt (v : V) (x : Value) : Prop := match v with
  | .int k n => x = .int k n
  | .str s => ∃ b : ByteArray, x = .string b ∧ b.data.toList = s
  | _ => False

def objAt (k : Ctx) (q : Key) : Ob → Prop
  | .cells cs fz => cellsAt k (k.pl q) cs ∧ (fz = false → ∀ o, ¬ k.S (k.pl q) o)
  | .row xs sz fz => (∃ arr ty fr cap, k.w.heap[k.pl q]? = some (.cells arr ty fr) ∧ (fz = false → fr = (0, 0)) ∧ (∀ i, q = .o i → k.rho i = .slice (some ⟨k.pl q, 0, none⟩) xs.length cap) ∧ xs.length ≤ cap ∧ cap * sz ≤ arr.size ∧
      ∀ (i : Nat) (v : V) (j : Nat) (u : V), xs[i]? = some v → v.cells[j]? = some u → ∃ x, arr[i * sz + j]? = some x ∧ PR k.C u x ∧ x.oneCell' = true ∧ (fz = true → k.S (k.pl q) (i * sz + j))) ∧
      (∀ (i : Nat) (v : V), xs[i]? = some v → v.cells.length = sz) ∧ (fz = false → ∀ o, ¬ k.S (k.pl q) o)
  | .map es => (∃ ents clock, k.w.heap[k.pl q]? = some (.map ents clock) ∧ ents.size = es.length ∧
      ∀ (i : Nat) (key v : V) (ent : MapEntry), es[i]? = some (key, v) → ents[i]? = some ent → keyAt key ent.key ∧ PR k.C v ent.val) ∧ ∀ o, ¬ k.S (k.pl q) o

structure OK (k : Ctx) : Prop where
  lt : ∀ b o, k.S b o → b < k.w.heap.size
  low : ∀ i o, k.h.get i = some o → i < k.h.c
  place : ∀ q o, k.ob q = some o → k.pl q < k.w.heap.size
  at_ : ∀ q o, k.ob q = some o → objAt k q o
  inj : ∀ q r o p, k.ob q = some o → k.ob r = some p → k.pl q = k.pl r → q = r

structure Ext (k k' : Ctx) : Prop where
  os : k'.w.os = k.w.os
  tape : k'.w.tape = k.w.tape
  output : k'.w.output = k.w.output
  size : k.w.heap.size ≤ k'.w.heap.size
  C : ∀ b o x, k.C b o x → k'.C b o x
  I : ∀ v x, k.I v x → k'.I v x
  frame : ∀ b, b < k.w.heap.size → ¬ k.own b → k'.w.heap[b]? = k.w.heap[b]? ∧ ∀ o, k'.S b o → k.S b o
  own : ∀ b, b < k.w.heap.size → k'.own b → k.own b

theorem Ext.refl (k : Ctx) : Ext k k := ⟨rfl, rfl, rfl, Nat.le_refl _, fun _ _ _ h => h, fun _ _ h => h, fun _ _ _ => ⟨rfl, fun _ h => h⟩, fun _ _ h => h⟩
theorem Ext.trans {a b c : Ctx} (h : Ext a b) (g : Ext b c) : Ext a c where
  os := g.os.trans h.os
  tape := g.tape.trans h.tape
  output := g.output.trans h.output
  size := Nat.le_trans h.size g.size
  C := fun _ _ _ x => g.C _ _ _ (h.C _ _ _ x)
  I := fun _ _ x => g.I _ _ (h.I _ _ x)
  frame := fun i hi hn => by
    have h1 := h.frame i hi hn
    have h2 := g.frame i (Nat.lt_of_lt_of_le hi h.size) (fun ho => hn (h.own i hi ho))
    exact ⟨h2.1.trans h1.1, fun o ho => h1.2 o (h2.2 o ho)⟩
  own := fun i hi ho => h.own i hi (g.own i (Nat.lt_of_lt_of_le hi h.size) ho)
theorem VR.ext {k k' : Ctx} (e : Ext k k') {v : V} {x : Value} (p : VR k v x) : VR k' v x := p.mono e.C e.I

/-! ### lookups -/
theorem lookup_update (i j : Nat) (o : Ob) : ∀ l : List (Nat × Ob), lookup j (update i o l) = if i = j ∧ (lookup i l).isSome then some o else lookup j l
  | [] => by simp [update, lookup]
  | (m, p) :: r => by
    have ih := lookup_update i j o r
    simp only [update, lookup]
    by_cases him : i = m
    · subst him
      simp only [Nat.beq_refl, cond_true, lookup]
      by_cases hij : i = j
      · subst hij; simp
      · have : Nat.beq j i = false := by rw [Bool.eq_false_iff]; intro h; exact hij (Nat.eq_of_beq_eq_true h).symm
        simp [this, hij]
    · have h1 : Nat.beq i m = false := by rw [Bool.eq_false_iff]; intro h; exact him (Nat.eq_of_beq_eq_true h)
      simp only [h1, cond_false, lookup]
      by_cases hjm : j = m
      · subst hjm
        have : ¬ (i = j) := him
        simp [this]
      · have h2 : Nat.beq j m = false := by rw [Bool.eq_false_iff]; intro h; exact hjm (Nat.eq_of_beq_eq_true h)
        simp only [h2, cond_false, ih]
theorem HS.get_set_same {h : HS} {i : Nat} {o p : Ob} (hg : h.get i = some p) : (h.set i o).get i = some o := by
  simp only [HS.get, HS.set, lookup_update]; simp only [HS.get] at hg; simp [hg]
theorem HS.get_set_other {h : HS} {i j : Nat} {o : Ob} (hne : i ≠ j) : (h.set i o).get j = h.get j := by
  simp only [HS.get, HS.set, lookup_update]; simp [hne]
theorem HS.get_new_same (h : HS) (o : Ob) : (h.new o).get h.c = some o := by simp [HS.get, HS.new, lookup]
theorem HS.get_new_other {h : HS} {o : Ob} {j : Nat} (hne : j ≠ h.c) : (h.new o).get j = h.get j := by
  have : Nat.beq j h.c = false := by rw [Bool.eq_false_iff]; intro e; exact hne (Nat.eq_of_beq_eq_true e)
  simp [HS.get, HS.new, lookup, this]
@[simp] theorem HS.c_set (h : HS) (i : Nat) (o : Ob) : (h.set i o).c = h.c := rfl
@[simp] theorem HS.c_new (h : HS) (o : Ob) : (h.new o).c = h.c + 1 := rfl

end Go.Proofs.YthpggdlhoegndaaDoor.LM
