/-
  ONE OPERATION: the machine's and the logical one's. Those that leave memory as it is.
-/
import Derived.Test.YthpggdlhoegndaaDoorLm17
import Derived.Laws.Cover3
set_option linter.all false
namespace Go.Proofs.YthpggdlhoegndaaDoor.LM
open Go

abbrev vS (s : Sem Value) : Sem Next := do pure (.value (← s))
abbrev uS (s : Sem Unit) : Sem Next := do s; pure .skip
theorem dead {α : Type} {p : Prop} {a : Option α} {b : α} (h : a = some b) (h2 : a = none) : p := by rw [h2] at h; cases h

section
variable {P : Program} {G : Nat → Option (List V)} {k : Ctx} {cf : Cfg} {ev : Ev} {s s' : St} {out : Out}

theorem vS_run {m : Sem Value} {x : Value} {w w' : World} (h : m.run P w = .ok x w') : (vS m).run P w = .ok (.value x) w' := by simp [vS, h]
theorem uS_run {m : Sem Unit} {w w' : World} (h : m.run P w = .ok () w') : (uS m).run P w = .ok .skip w' := by simp [uS, h]

structure At (k : Ctx) (s : St) : Prop where
  ok : OK k
  lo : k.lo = s.lo
  h : k.h = s.hs

theorem exec_ok1 {v : Option V} (he : exec1 (ok1 v) s = some (out, s')) : ∃ u, v = some u ∧ out = .val u ∧ s' = s := by
  cases v with
  | none => cases he
  | some u =>
    have he' : some (Out.val u, s) = some (out, s') := he
    simp only [Option.some.injEq, Prod.mk.injEq] at he'
    exact ⟨u, rfl, he'.1.symm, he'.2.symm⟩
theorem exec_pure {r : Option Out} (he : exec1 (.pure r) s = some (out, s')) : r = some out ∧ s' = s := by
  cases r with
  | none => cases he
  | some u =>
    have he' : some (u, s) = some (out, s') := he
    simp only [Option.some.injEq, Prod.mk.injEq] at he'
    exact ⟨by rw [he'.1], he'.2.symm⟩
theorem exec_locR {t : Nat} {f : Nat × List V → Option Out} (he : exec1 (.locR t f) s = some (out, s')) : ∃ l, s.lo[t]? = some l ∧ f l = some out ∧ s' = s := by
  simp only [exec1] at he
  split at he
  · rename_i l hl
    split at he
    · rename_i o ho
      simp only [Option.some.injEq, Prod.mk.injEq] at he
      exact ⟨l, hl, by rw [ho, he.1], he.2.symm⟩
    · cases he
  · cases he
theorem exec_locW {t : Nat} {f : Nat × List V → Option (Out × (Nat × List V))} (he : exec1 (.locW t f) s = some (out, s')) : ∃ l l', s.lo[t]? = some l ∧ f l = some (out, l') ∧ s' = ⟨s.fr, s.lo.set t l', s.hs⟩ := by
  simp only [exec1] at he
  split at he
  · rename_i l hl
    split at he
    · rename_i o l' ho
      simp only [Option.some.injEq, Prod.mk.injEq] at he
      exact ⟨l, l', hl, by rw [ho, he.1], he.2.symm⟩
    · cases he
  · cases he
theorem exec_obR {i : Nat} {f : Ob → Option Out} (he : exec1 (.obR i f) s = some (out, s')) : ∃ o, s.hs.get i = some o ∧ f o = some out ∧ s' = s := by
  simp only [exec1] at he
  split at he
  · rename_i l hl
    split at he
    · rename_i o ho
      simp only [Option.some.injEq, Prod.mk.injEq] at he
      exact ⟨l, hl, by rw [ho, he.1], he.2.symm⟩
    · cases he
  · cases he
theorem exec_hpR {f : HS → Option Out} (he : exec1 (.hpR f) s = some (out, s')) : f s.hs = some out ∧ s' = s := by
  simp only [exec1] at he
  split at he
  · rename_i o ho
    simp only [Option.some.injEq, Prod.mk.injEq] at he
    exact ⟨by rw [ho, he.1], he.2.symm⟩
  · cases he
theorem exec_hpW {f : HS → Option (Out × HS)} (he : exec1 (.hpW f) s = some (out, s')) : ∃ h', f s.hs = some (out, h') ∧ s' = ⟨s.fr, s.lo, h'⟩ := by
  simp only [exec1] at he
  split at he
  · rename_i o h' ho
    simp only [Option.some.injEq, Prod.mk.injEq] at he
    exact ⟨h', by rw [ho, he.1], he.2.symm⟩
  · cases he

theorem did_ok1 {v : Option V} {res : Result Next} (hs : At k s) (he : exec1 (ok1 v) s = some (out, s')) (h : ∀ u, v = some u → ∃ x, res = .ok (.value x) k.w ∧ VR k u x) : Did P k s' out res := by
  obtain ⟨u, hv, rfl, rfl⟩ := exec_ok1 he
  obtain ⟨x, rfl, hx⟩ := h u hv
  exact did_val hs.ok hs.lo hs.h hx
theorem did_step {k' : Ctx} {res : Result Next} {v : V} {x : Value} (st : Step k k') (hl : k'.lo = s'.lo) (hh : k'.h = s'.hs) (hr : res = .ok (.value x) k'.w) (hx : VR k' v x) : Did P k s' (.val v) res := by
  rw [hr]; exact .val ⟨st.ext, st.ok, hl, hh⟩ hx
theorem did_unit {k' : Ctx} {res : Result Next} (st : Step k k') (hl : k'.lo = s'.lo) (hh : k'.h = s'.hs) (hr : res = .ok .skip k'.w) : Did P k s' .skip res := by
  rw [hr]; exact .skip ⟨st.ext, st.ok, hl, hh⟩

/-! ### the plain ones -/
theorem did_mv {d : Option Nat} {v : V} {x : Value} (hs : At k s) (hv : VR k v x) (he : exec1 (plan cf ev d .mv [v]) s = some (out, s')) : Did P k s' out (.ok (.value x) k.w) :=
  did_ok1 hs (v := some v) he fun u hu => by simp only [Option.some.injEq] at hu; subst hu; exact ⟨x, rfl, hv⟩
theorem did_pick {d : Option Nat} {c a b : V} {x y z : Value} (hs : At k s) (hc : VR k c x) (ha : VR k a y) (hb : VR k b z) (he : exec1 (plan cf ev d .pick [c, a, b]) s = some (out, s')) :
    Did P k s' out (Sem.run P (do pure (Next.value (if ← asBool x then y else z))) k.w) := by
  cases c <;> first
    | exact dead he rfl
    | skip
  rename_i c
  rw [bool_inv hc]
  refine did_ok1 hs (v := some (bif c then a else b)) he fun u hu => ?_
  simp only [Option.some.injEq] at hu; subst hu
  cases c
  · exact ⟨z, by simp [asBool], hb⟩
  · exact ⟨y, by simp [asBool], ha⟩
theorem ptr_inv {v : V} {x : Value} (h : VR k v x) (hp : v.isPtr = true) : ∃ b o, x = .pointer (some ⟨b, o, none⟩) := by
  obtain ⟨b, o, e, _⟩ := shift_rel h hp 0
  exact ⟨b, o, e⟩
theorem func_inv {f : Nat} {caps : List V} {x : Value} (h : VR k (.func f caps) x) : ∃ caps' : Array Value, x = .func (.func f) #[] caps' ∧ caps'.size = caps.length ∧ ∀ (i : Nat) (v : V) (x : Value), caps[i]? = some v → caps'[i]? = some x → VR k v x := by
  cases h with
  | pure h => cases h with
    | func hl hp => exact ⟨_, rfl, hl, fun i v x hi hx => .pure (hp i v x hi hx)⟩
  | atom h => exact h.elim
  | func hl hp => exact ⟨_, rfl, hl, hp⟩
def nilCheckS (x : Value) : Sem Next :=
  match x with
  | .pointer none | .nilIface | .nilFunc => runtimePanic .nilDeref
  | .func (.method name) first captured =>
    match (first[0]? : Option Value) with
    | some .nilIface => runtimePanic .nilDeref
    | some (.iface t w) => do
      if (← nilAhead ((← program).types.size + Made.depth) t w name) != some false then
        unsupported (.noEntry "op/nilCheck.the method's receiver behind this interface value is a nil pointer, or cannot be seen to be none, and the arguments act or may panic (ledger 612)")
      pure (.value (.func (.method name) first captured))
    | _ => pure (.value (.func (.method name) first captured))
  | x => pure (.value x)
theorem did_nilck {d : Option Nat} {v : V} {x : Value} {m : Sem Next} (hm : (∀ b o, m.run P k.w = (.ok (.value (.pointer (some ⟨b, o, none⟩))) k.w) ∨ x ≠ .pointer (some ⟨b, o, none⟩)) ∧ (∀ f c, m.run P k.w = .ok (.value (.func (.func f) #[] c)) k.w ∨ x ≠ .func (.func f) #[] c))
    (hs : At k s) (hv : VR k v x) (he : exec1 (plan cf ev d .nilck [v]) s = some (out, s')) : Did P k s' out (m.run P k.w) := by
  have key : v.isPtr = true → exec1 (ok1 (some v)) s = some (out, s') → Did P k s' out (m.run P k.w) := by
    intro hp he
    refine did_ok1 hs he fun u hu => ?_
    simp only [Option.some.injEq] at hu; subst hu
    obtain ⟨b, o, rfl⟩ := ptr_inv hv hp
    exact ⟨_, (hm.1 b o).resolve_right (fun h => h rfl), hv⟩
  cases v <;> first
    | exact key rfl he
    | exact dead he rfl
    | skip
  rename_i f caps
  refine did_ok1 hs (v := some (.func f caps)) he fun u hu => ?_
  simp only [Option.some.injEq] at hu; subst hu
  obtain ⟨c, rfl, _⟩ := func_inv hv
  exact ⟨_, (hm.2 f c).resolve_right (fun h => h rfl), hv⟩
theorem did_bin {d : Option Nat} {o : BinOp} {v u : V} {x y : Value} (t : TypeId) (X Y : Operand) (hs : At k s) (hv : VR k v x) (hu : VR k u y) (he : exec1 (plan cf ev d (.bin o) [v, u]) s = some (out, s')) :
    Did P k s' out ((vS (do eqGuard o t X Y x y; binOp o t x y)).run P k.w) :=
  did_ok1 hs (v := binV o v u) he fun r hr => by
    obtain ⟨z, hz, hzr⟩ := bin_run t X Y hv hu hr k.w
    exact ⟨z, vS_run hz, hzr⟩
theorem did_eqb {d : Option Nat} {neg : Bool} {v u : V} {x y : Value} {t : TypeId} (X Y : Operand) (ht : P.underlying t = some .bool) (hs : At k s) (hv : VR k v x) (hu : VR k u y) (he : exec1 (plan cf ev d (.eqb neg) [v, u]) s = some (out, s')) :
    Did P k s' out ((vS (do eqGuard (if neg then .neq else .eql) t X Y x y; binOp (if neg then .neq else .eql) t x y)).run P k.w) := by
  cases v <;> first
    | exact dead he rfl
    | skip
  cases u <;> first
    | exact dead he rfl
    | skip
  rename_i a b
  refine did_ok1 hs (v := some (.bool (neg ^^ (a == b)))) he fun r hr => ?_
  simp only [Option.some.injEq] at hr; subst hr
  exact ⟨_, vS_run (eqb_run X Y ht hv hu k.w), .pure (.bool _)⟩
theorem eqs_run {t e : TypeId} {neg : Bool} {c : V} {cs : List V} {full : Bool} {x : Value} (X Y : Operand) (ht : P.underlying t = some (.slice e)) (hx : VR k (.slice (c :: cs) full) x) (w : World) :
    ((do eqGuard (if neg then .neq else .eql) t X Y x (.slice none 0 0); binOp (if neg then .neq else .eql) t x (.slice none 0 0)) : Sem Value).run P w = .ok (.bool neg) w := by
  cases slice_inv hx with
  | slice hcap hf ha _ _ _ =>
    rw [ha (by simp)]
    have h1 := fun a l c => run_equal_slice_nil (P := P) w t e a l c ht
    cases neg
    · simp [eqGuard, binOp, h1]
    · simp [eqGuard, binOp, h1]
theorem did_eqs {d : Option Nat} {neg : Bool} {v u : V} {x : Value} {t e : TypeId} (X Y : Operand) (ht : P.underlying t = some (.slice e)) (hs : At k s) (hv : VR k v x) (he : exec1 (plan cf ev d (.eqs neg) [v, u]) s = some (out, s')) :
    Did P k s' out ((vS (do eqGuard (if neg then .neq else .eql) t X Y x (.slice none 0 0); binOp (if neg then .neq else .eql) t x (.slice none 0 0))).run P k.w) := by
  cases v <;> first
    | exact dead he rfl
    | skip
  rename_i xs full
  cases xs with
  | nil => exact dead he rfl
  | cons c cs =>
    refine did_ok1 hs (v := some (.bool neg)) he fun r hr => ?_
    simp only [Option.some.injEq] at hr; subst hr
    exact ⟨_, vS_run (eqs_run X Y ht hv k.w), .pure (.bool _)⟩
theorem did_eqa {d : Option Nat} {neg : Bool} {ks : List TK} {v u : V} {x y : Value} {t : TypeId} (X Y : Operand) (hks : kindsT P 20 t = some ks) (hag : aggT P t = some true) (hm : P.eqGuardType P.depth t = false)
    (hs : At k s) (hv : VR k v x) (hu : VR k u y) (he : exec1 (plan cf ev d (.eqa neg ks) [v, u]) s = some (out, s')) :
    Did P k s' out ((vS (do eqGuard (if neg then .neq else .eql) t X Y x y; binOp (if neg then .neq else .eql) t x y)).run P k.w) := by
  cases v <;> first
    | exact dead he rfl
    | skip
  cases u <;> first
    | exact dead he rfl
    | skip
  rename_i a b
  refine did_ok1 hs (v := match eqCells ks a b with | some r => some (.bool (neg ^^ r)) | none => none) he fun r hr => ?_
  split at hr
  · rename_i c hc
    simp only [Option.some.injEq] at hr; subst hr
    exact ⟨_, vS_run (eqa_run X Y hks hag hm hv hu hc k.w), .pure (.bool _)⟩
  · cases hr
theorem did_un {d : Option Nat} {o : UnOp} {v : V} {x : Value} (hs : At k s) (hv : VR k v x) (he : exec1 (plan cf ev d (.un o) [v]) s = some (out, s')) : Did P k s' out ((vS (Op.unary o x)).run P k.w) :=
  did_ok1 hs (v := unV o v) he fun r hr => by
    obtain ⟨z, hz, hzr⟩ := un_run hv hr k.w
    exact ⟨z, vS_run hz, hzr⟩
theorem did_cint {d : Option Nat} {kd : IntKind} {v : V} {x : Value} {src dst : TypeId} {sd : TypeDesc} (hsrc : P.underlying src = some sd) (hdst : P.underlying dst = some (.int kd)) (hs : At k s) (hv : VR k v x)
    (he : exec1 (plan cf ev d (.conv (.int kd)) [v]) s = some (out, s')) : Did P k s' out ((vS (convert src dst x)).run P k.w) := by
  cases v <;> first
    | exact dead he rfl
    | skip
  rename_i k0 n
  refine did_ok1 hs (v := some (.int kd (kd.wrap n))) he fun r hr => ?_
  simp only [Option.some.injEq] at hr; subst hr
  rw [int_inv hv]
  refine ⟨_, vS_run ?_, .pure (.int _ _)⟩
  simp [convert, run_underlying hsrc, run_underlying hdst, Conv.intToInt]
theorem did_cstr {d : Option Nat} {v : V} {x : Value} {src dst : TypeId} (hsrc : P.underlying src = some .string) (hdst : P.underlying dst = some .string) (hs : At k s) (hv : VR k v x)
    (he : exec1 (plan cf ev d (.conv .str) [v]) s = some (out, s')) : Did P k s' out ((vS (convert src dst x)).run P k.w) := by
  cases v <;> first
    | exact dead he rfl
    | skip
  rename_i l
  refine did_ok1 hs (v := some (.str l)) he fun r hr => ?_
  simp only [Option.some.injEq] at hr; subst hr
  obtain ⟨b, rfl, hb⟩ := str_inv hv
  refine ⟨_, vS_run ?_, hv⟩
  simp [convert, run_underlying hsrc, run_underlying hdst]
theorem did_mki {d : Option Nat} {v : V} {x : Value} {t : TypeId} {td : TypeDesc} (ht : P.underlying t = some td) (hn : ∀ m, td ≠ .interface m) (hs : At k s) (hv : VR k v x)
    (he : exec1 (plan cf ev d (.mki t) [v]) s = some (out, s')) : Did P k s' out ((vS (Instr.makeInterface t x)).run P k.w) := by
  have he' : exec1 (bif v.pure then ok1 (some (.iface t v)) else fail) s = some (out, s') := he
  cases hp : v.pure with
  | false => rw [hp] at he'; exact dead he' rfl
  | true =>
    rw [hp] at he'
    refine did_ok1 hs (v := some (.iface t v)) he' fun r hr => ?_
    simp only [Option.some.injEq] at hr; subst hr
    refine ⟨.iface t x, vS_run ?_, .pure (.iface (pr_pure hv hp))⟩
    simp only [Instr.makeInterface, Sem.run_bind, run_underlying ht, Result.andThen_ok]
    cases td <;> first
      | exact absurd rfl (hn _)
      | rfl
theorem did_mkf {d : Option Nat} {f : Nat} {vs : List V} {xs : Array Value} (hs : At k s) (hl : xs.size = vs.length) (hv : ∀ (i : Nat) (v : V) (x : Value), vs[i]? = some v → xs[i]? = some x → VR k v x)
    (he : exec1 (plan cf ev d (.mkf f false) vs) s = some (out, s')) : Did P k s' out ((vS (Instr.makeFunc (.func f) #[] xs)).run P k.w) := by
  refine did_ok1 hs (v := some (.func f vs)) he fun r hr => ?_
  simp only [Option.some.injEq] at hr; subst hr
  exact ⟨.func (.func f) #[] xs, vS_run (by simp [Instr.makeFunc]), .func hl hv⟩
theorem did_mkfz {d : Option Nat} {f : Nat} {vs : List V} {xs : Array Value} (hs : At k s) (hl : xs.size = vs.length) (hv : ∀ (i : Nat) (v : V) (x : Value), vs[i]? = some v → xs[i]? = some x → VR k v x)
    (he : exec1 (plan cf ev d (.mkf f true) vs) s = some (out, s')) : Did P k s' out ((vS (Instr.makeFunc (.func f) #[] xs)).run P k.w) := by
  obtain ⟨h', h1, rfl⟩ := exec_hpW he
  split at h1
  · rename_i caps h2 e2
    simp only [Option.some.injEq, Prod.mk.injEq] at h1
    obtain ⟨rfl, rfl⟩ := h1
    rw [← hs.h] at e2
    obtain ⟨k1, st, l1, g1, w1, n1, p1⟩ := freeze_all (xs := xs.toList) hs.ok e2 (by simpa using hl) (fun i v x hi hx => hv i v x hi (by simpa using hx))
    refine did_step (x := .func (.func f) #[] xs) st (l1.trans hs.lo) g1 ?_ (.pure (.func (by rw [hl, n1]) fun i v x hi hx => p1 i v x hi (by simpa using hx)))
    rw [vS_run (x := .func (.func f) #[] xs) (w' := k.w) (by simp [Instr.makeFunc]), w1]
  · cases h1
theorem did_fld {d : Option Nat} {ag : Bool} {sz f : Nat} {fd : Field} {v : V} {x : Value} {t : TypeId} (hf : fieldT P t f = some fd) (hag : aggT P fd.type = some ag) (hsz : sizeT P fd.type = some sz) (hs : At k s) (hv : VR k v x)
    (he : exec1 (plan cf ev d (.fld ag fd.offset sz) [v]) s = some (out, s')) : Did P k s' out ((vS (Instr.field t x f)).run P k.w) := by
  cases v <;> first
    | exact dead he rfl
    | skip
  rename_i cs
  refine did_ok1 hs (v := part ag fd.offset sz cs) he fun r hr => ?_
  obtain ⟨y, hy, hyv⟩ := field_run hf hag hsz hv hr k.w
  exact ⟨y, vS_run hy, hyv⟩
theorem did_fad {d : Option Nat} {sz f : Nat} {fd : Field} {v : V} {x : Value} {t : TypeId} (hf : fieldT P t f = some fd) (hsz : sizeT P fd.type = some sz) (h0 : sz ≠ 0) (hs : At k s) (hv : VR k v x)
    (he : exec1 (plan cf ev d (.fad fd.offset) [v]) s = some (out, s')) : Did P k s' out ((vS (Instr.fieldAt t x f)).run P k.w) := by
  have key : v.isPtr = true → exec1 (ok1 (some (v.shift fd.offset))) s = some (out, s') → Did P k s' out ((vS (Instr.fieldAt t x f)).run P k.w) := by
    intro hp he
    refine did_ok1 hs he fun u hu => ?_
    simp only [Option.some.injEq] at hu; subst hu
    obtain ⟨b, o, rfl, hv2⟩ := shift_rel hv hp fd.offset
    exact ⟨_, vS_run (fad_run hf hsz h0 b o k.w), hv2⟩
  cases v <;> first
    | exact key rfl he
    | exact dead he rfl
theorem exec_bif {b : Bool} {a : Act1} (he : exec1 (bif b then a else fail) s = some (out, s')) : b = true ∧ exec1 a s = some (out, s') := by
  cases b with
  | true => exact ⟨rfl, he⟩
  | false => exact dead he rfl
theorem did_iadA {d : Option Nat} {n sz : Nat} {v u : V} {x y : Value} {t e : TypeId} (ht : P.underlying t = some (.array n e)) (hsz : sizeT P e = some sz) (hs : At k s) (hv : VR k v x) (hu : VR k u y)
    (he : exec1 (plan cf ev d (.iadA n sz) [v, u]) s = some (out, s')) : Did P k s' out ((vS (Instr.indexAt t x y)).run P k.w) := by
  have key : ∀ kd i, VR k (.int kd i) y → v.isPtr = true → exec1 (bif decide (0 ≤ i) && decide (i < n) then ok1 (some (v.shift (i.toNat * sz))) else fail) s = some (out, s') → Did P k s' out ((vS (Instr.indexAt t x y)).run P k.w) := by
    intro kd i hy hp he
    obtain ⟨hb, he⟩ := exec_bif he
    simp only [Bool.and_eq_true, decide_eq_true_eq] at hb
    refine did_ok1 hs he fun u hu => ?_
    simp only [Option.some.injEq] at hu; subst hu
    obtain ⟨b, o, rfl, hv2⟩ := shift_rel hv hp (i.toNat * sz)
    rw [int_inv hy]
    exact ⟨_, vS_run (iadA_run ht hsz hb.1 hb.2 b o k.w), hv2⟩
  have nokey : ∀ (i : Int) (q : Act1), q = fail → exec1 (bif decide (0 ≤ i) && decide (i < n) then q else fail) s = some (out, s') → False := by
    intro i q hq he
    subst hq
    obtain ⟨_, he⟩ := exec_bif he
    exact dead he rfl
  cases u <;> first
    | (cases v <;> exact dead he rfl; done)
    | skip
  cases v <;> first
    | exact key _ _ hu rfl he
    | exact (nokey _ _ rfl he).elim
theorem did_idxA {d : Option Nat} {n sz : Nat} {ag : Bool} {v u : V} {x y : Value} {t e : TypeId} (ht : P.underlying t = some (.array n e)) (hag : aggT P e = some ag) (hsz : sizeT P e = some sz) (hs : At k s) (hv : VR k v x) (hu : VR k u y)
    (he : exec1 (plan cf ev d (.idxA n sz ag) [v, u]) s = some (out, s')) : Did P k s' out ((vS (Instr.index t x y)).run P k.w) := by
  cases v <;> first
    | (cases u <;> exact dead he rfl; done)
    | skip
  cases u <;> first
    | exact dead he rfl
    | skip
  rename_i cs kd i
  obtain ⟨hb, he⟩ := exec_bif (b := decide (0 ≤ i) && decide (i < n)) (a := ok1 (part ag (i.toNat * sz) sz cs)) he
  simp only [Bool.and_eq_true, decide_eq_true_eq] at hb
  refine did_ok1 hs he fun r hr => ?_
  obtain ⟨z, hz, hzv⟩ := idxA_run (kd := kd) ht hag hsz hv hb.1 hb.2 hr k.w
  rw [int_inv hu]
  exact ⟨z, vS_run hz, hzv⟩
theorem did_idxS {d : Option Nat} {v u : V} {x y : Value} {t : TypeId} (ht : P.underlying t = some .string) (hs : At k s) (hv : VR k v x) (hu : VR k u y)
    (he : exec1 (plan cf ev d .idxS [v, u]) s = some (out, s')) : Did P k s' out ((vS (Instr.index t x y)).run P k.w) := by
  cases v <;> first
    | (cases u <;> exact dead he rfl; done)
    | skip
  cases u <;> first
    | exact dead he rfl
    | skip
  rename_i l kd i
  have he' : exec1 (bif decide (0 ≤ i) then (match l[i.toNat]? with | some b => ok1 (some (ofByte b)) | none => fail) else fail) s = some (out, s') := he
  obtain ⟨hb, he'⟩ := exec_bif he'
  simp only [decide_eq_true_eq] at hb
  cases hg : l[i.toNat]? with
  | none => rw [hg] at he'; exact dead he' rfl
  | some b =>
    rw [hg] at he'
    refine did_ok1 hs (v := some (ofByte b)) he' fun r hr => ?_
    simp only [Option.some.injEq] at hr; subst hr
    rw [int_inv hu]
    exact ⟨_, vS_run (idxS_run ht hv hb hg k.w), .pure (.int _ _)⟩
theorem did_ext {d : Option Nat} {i : Nat} {v : V} {x : Value} (hs : At k s) (hv : VR k v x) (he : exec1 (plan cf ev d (.ext i) [v]) s = some (out, s')) : Did P k s' out ((vS (Instr.extract x i)).run P k.w) := by
  cases v <;> first
    | exact dead he rfl
    | skip
  rename_i vs
  refine did_ok1 hs (v := vs[i]?) he fun r hr => ?_
  obtain ⟨arr, rfl, hl, hc⟩ := tuple_inv hv
  have hlt : i < arr.size := by rw [hl]; exact (List.getElem?_eq_some_iff.1 hr).1
  exact ⟨arr[i], vS_run (by simp [Instr.extract, hlt]), hc i r _ hr (by simp [hlt])⟩
theorem did_minmax {d : Option Nat} {mx : Bool} {v u : V} {x y : Value} {ts : Array TypeId} {t : TypeId} (hs : At k s) (hv : VR k v x) (hu : VR k u y)
    (he : exec1 (plan cf ev d (.minmax mx) [v, u]) s = some (out, s')) : Did P k s' out ((vS (if mx then Builtin.max_ ts t #[x, y] else Builtin.min_ ts t #[x, y])).run P k.w) := by
  cases v <;> first
    | (cases u <;> exact dead he rfl; done)
    | skip
  cases u <;> first
    | exact dead he rfl
    | skip
  rename_i k1 a k2 b
  obtain ⟨hb, he⟩ := exec_bif (b := decide (k1 = k2)) (a := ok1 (some (.int k1 (maxI mx a b)))) he
  refine did_ok1 hs he fun r hr => ?_
  simp only [Option.some.injEq] at hr; subst hr
  rw [int_inv hv, int_inv hu]
  refine ⟨.int k1 (maxI mx a b), vS_run ?_, .pure (.int _ _)⟩
  cases mx <;> simp [Builtin.max_, Builtin.min_, Builtin.max2, Builtin.min2, maxI]
theorem did_panic {d : Option Nat} {v : V} {x : Value} (hs : At k s) (hv : VR k v x) (he : exec1 (plan cf ev d .panic [v]) s = some (out, s')) : Did P k s' out ((vS (Instr.panic x)).run P k.w) := by
  cases v <;> first
    | exact dead he rfl
    | skip
  rename_i t v
  obtain ⟨h1, rfl⟩ := exec_pure (r := some (.panic (.iface t v))) he
  simp only [Option.some.injEq] at h1; subst h1
  have hx : ∃ y, x = .iface t y := by
    cases hv with
    | pure h => cases h; exact ⟨_, rfl⟩
    | atom h => exact h.elim
    | iface h => exact ⟨_, rfl⟩
  obtain ⟨y, rfl⟩ := hx
  have hr : (vS (Instr.panic (.iface t y))).run P k.w = .halt (.panic (.iface t y)) k.w := by simp [vS, Instr.panic, goPanic, Sem.run]
  rw [hr]
  exact .panic (.refl hs.ok hs.lo hs.h) hv
end
end Go.Proofs.YthpggdlhoegndaaDoor.LM
