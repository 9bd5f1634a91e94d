/-
  THE BEGINNING AND THE END of a law's call: the memory that is there is read and never written; behind the call it is as it was.
-/
import Derived.Test.YthpggdlhoegndaaDoorLm29
import Derived.Below
set_option linter.all false
namespace Go.Proofs.YthpggdlhoegndaaDoor.LM
open Go Go.RowKit

section
variable {P : Program} {G : Nat → Option (List V)} {cf : Cfg}

/-- when a law's call begins: all that is there stays -/
def start (W : World) : Ctx where
  S := fun b _ => b < W.heap.size
  pl := fun _ => 0
  rho := fun _ => .nilIface
  lo := []
  h := HS.none
  w := W
theorem start_none (W : World) (q : Key) : (start W).ob q = none := by
  cases q with
  | l t => simp [Ctx.ob, start]
  | o i => rfl
theorem start_ok (W : World) : OK (start W) where
  lt := fun b o h => h
  low := fun i o h => by cases h
  place := fun q o h => by rw [start_none] at h; cases h
  at_ := fun q o h => by rw [start_none] at h; cases h
  inj := fun q r o p h => by rw [start_none] at h; cases h
theorem start_C {W : World} {b o : Nat} {x : Value} (h : W.cell? ⟨b, o, none⟩ = some x) : (start W).C b o x := ⟨World.block_lt_of_cell? W _ h, h⟩
theorem start_below {W : World} {k' : Ctx} (st : Step (start W) k') : Below W.heap.size W k'.w where
  os := st.ext.os
  tape := st.ext.tape
  output := st.ext.output
  size := st.ext.size
  block := fun b hb => (st.ext.frame b hb (fun ⟨q, o, hq, _⟩ => by rw [start_none] at hq; cases hq)).1

theorem gave_calls {k0 : Ctx} {h' : HS} {r : Res} {res : Result Next} {f : FuncId} {args : Array Value} (g : Gave P k0 h' r res) (he : res = .ok (.enter f args) k0.w) : Calls P f args k0.w (CameR k0 r h') := by
  cases g with
  | enter h =>
    simp only [Result.ok.injEq, Next.enter.injEq, and_true] at he
    obtain ⟨rfl, rfl⟩ := he
    exact h
  | value st hh hv => simp at he

def okTrue : Option (Res × HS) → Bool
  | some (.ret (.bool true), _) => true
  | _ => false
/-- what the evaluator says true to, the machine says true to -/
theorem calls_true {W : World} {n f : Nat} {vs : List V} {args : Array Value} {fn : Func} {c : Code} (ht : Tables P G cf) (hG : GR G (start W)) (ha : Args (start W) vs args)
    (hf : P.funcs[f]? = some fn) (hn : (fn.name == "runtime.NumGoroutine") = false) (hb : fn.body = some c) (he : okTrue (evalCall cf n f vs HS.none) = true) :
    Calls P f args W fun e W' => e = .returned (.bool true) ∧ Below W.heap.size W W' := by
  cases hr : evalCall cf n f vs HS.none with
  | none => rw [hr] at he; cases he
  | some p =>
    obtain ⟨r, h'⟩ := p
    rw [hr] at he
    have hrt : r = .ret (.bool true) := by
      unfold okTrue at he
      split at he
      · rename_i heq; simp only [Option.some.injEq, Prod.mk.injEq] at heq; exact heq.1
      · cases he
    subst hrt
    have hne : ¬ fn.name = "runtime.NumGoroutine" := by simpa using hn
    have hcall : (callFunc f args).run P W = .ok (.enter f args) W := by simp [callFunc, hf, hne, hb]
    refine (gave_calls (call_sound ht n (start W) f vs args _ h' (start_ok W) hG rfl ha hr) hcall).mono ?_
    rintro e W' ⟨k', st, _, rfl, x, rfl, hx⟩
    exact ⟨by rw [bool_inv hx], start_below st⟩

/-! ### arguments that are plain values -/
theorem args_nil (k : Ctx) : Args k [] #[] := ⟨rfl, fun i v x h => by simp at h⟩
theorem args_cons {k : Ctx} {v : V} {vs : List V} {x : Value} {xs : List Value} (h : VR k v x) (hs : Args k vs xs.toArray) : Args k (v :: vs) (x :: xs).toArray := by
  obtain ⟨h1, h2⟩ := hs
  refine ⟨by simpa using h1, fun i u y hi hy => ?_⟩
  cases i with
  | zero => simp at hi hy; subst hi; subst hy; exact h
  | succ i => exact h2 i u y (by simpa using hi) (by simpa using hy)
/-- a variable of the package whose cells are known -/
theorem gr_of {W : World} (h : ∀ g cs, G g = some cs → ∃ f : Nat → Value, ∀ (j : Nat) (v : V), cs[j]? = some v → W.cell? ⟨g, j, none⟩ = some (f j) ∧ PR (start W).C v (f j)) : GR G (start W) := by
  intro g cs hg
  obtain ⟨f, hf⟩ := h g cs hg
  exact .cptr (b := g) (o := 0) (off := 0) (vals := f) (fun j v hj => by rw [Nat.zero_add]; exact start_C (hf j v hj).1) (fun j v hj => (hf j v hj).2)
end
end Go.Proofs.YthpggdlhoegndaaDoor.LM
