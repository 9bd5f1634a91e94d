/-
  ONE OPERATION: the model's, as it was compiled.
-/
import Derived.Test.YthpggdlhoegndaaDoorLm23
set_option linter.all false
namespace Go.Proofs.YthpggdlhoegndaaDoor.LM
open Go

section
variable {P : Program} {G : Nat → Option (List V)} {fz esc : Nat → Bool} {k : Ctx} {cf : Cfg} {ev : Ev} {s s' : St} {out : Out} {a : Act}

theorem args_one {v : V} {arr : Array Value} (h : Args k [v] arr) : ∃ x, arr = #[x] ∧ VR k v x := by
  obtain ⟨hl, hv⟩ := h
  obtain ⟨l⟩ := arr
  match l, hl with
  | [x], _ => exact ⟨x, rfl, hv 0 v x rfl rfl⟩
theorem args_two {v w : V} {arr : Array Value} (h : Args k [v, w] arr) : ∃ x y, arr = #[x, y] ∧ VR k v x ∧ VR k w y := by
  obtain ⟨hl, hv⟩ := h
  obtain ⟨l⟩ := arr
  match l, hl with
  | [x, y], _ => exact ⟨x, y, rfl, hv 0 v x rfl rfl, hv 1 w y rfl rfl⟩
theorem op_did {tl : List Nat} {o : Oper} {lop : LOp} {xs0 : List Operand} (hev : CallSound P G ev) (hs : At k s) (hG : GR G k) (hf : FR k s.fr a.tmps)
    (hop : opOf P fz esc tl o = some (lop, xs0)) : OpDid P G k cf ev s a o lop xs0 := by
  intro xs out s' hxs he
  obtain ⟨dst, op, ty, pos, after, guard⟩ := o
  cases op
  case move x =>
    simp only [opOf, Option.some.injEq, Prod.mk.injEq] at hop
    obtain ⟨rfl, rfl⟩ := hop
    obtain ⟨v, e, hv⟩ := arg1 hG hf hxs
    rw [e] at he
    exact did_mv hs hv he
  case assign x =>
    simp only [opOf, Option.some.injEq, Prod.mk.injEq] at hop
    obtain ⟨rfl, rfl⟩ := hop
    obtain ⟨v, e, hv⟩ := arg1 hG hf hxs
    rw [e] at he
    exact did_mv hs hv he
  case pick c x y =>
    simp only [opOf, Option.some.injEq, Prod.mk.injEq] at hop
    obtain ⟨rfl, rfl⟩ := hop
    obtain ⟨v, w, u, e, hv, hw, hu⟩ := arg3 hG hf hxs
    rw [e] at he
    exact did_pick hs hv hw hu he
  case alloc e =>
    simp only [opOf, Option.bind_eq_bind, Option.bind_eq_some_iff, Option.some.injEq, Prod.mk.injEq] at hop
    obtain ⟨z, hz, rfl, rfl⟩ := hop
    simp only [ofXs, mapO, Option.some.injEq] at hxs; subst hxs
    exact did_alloc hz hs he
  case box e x =>
    simp only [opOf, Option.some.injEq, Prod.mk.injEq] at hop
    obtain ⟨rfl, rfl⟩ := hop
    obtain ⟨v, e, hv⟩ := arg1 hG hf hxs
    rw [e] at he
    exact did_box hs hv he
  case build t ps =>
    simp only [opOf, Option.bind_eq_bind, Option.bind_eq_some_iff] at hop
    obtain ⟨z, hz, pl, hpl, hop⟩ := hop
    split at hop
    · simp only [Option.some.injEq, Prod.mk.injEq] at hop
      obtain ⟨rfl, rfl⟩ := hop
      obtain ⟨h1, h2⟩ := parts_of hG hf hxs
      exact did_build (ps := ps.map fun (i, x) => (i, a.eval x)) hz (by rw [parts_fst]; exact hpl) hs h1 h2 he
    · cases hop
  case buildSlice t n ps =>
    simp only [opOf] at hop
    split at hop
    · rename_i e ht
      simp only [Option.bind_eq_bind, Option.bind_eq_some_iff] at hop
      obtain ⟨z, hz, sz, hsz, hop⟩ := hop
      obtain ⟨hc, hop⟩ := bif_yes hop
      simp only [Option.some.injEq, Prod.mk.injEq] at hop
      obtain ⟨rfl, rfl⟩ := hop
      rw [Bool.and_eq_true] at hc
      obtain ⟨h1, h2⟩ := parts_of hG hf hxs
      rw [← parts_fst (ps := ps) a] at he
      exact did_lit ht hz hsz (beq_nat hc.1) (Nat.le_of_ble_eq_true hc.2) hs h1 h2 he
    · cases hop
  case load t x =>
    simp only [opOf, Option.bind_eq_bind, Option.bind_eq_some_iff, Option.some.injEq, Prod.mk.injEq] at hop
    obtain ⟨ag, hag, sz, hsz, rfl, rfl⟩ := hop
    obtain ⟨v, e, hv⟩ := arg1 hG hf hxs
    rw [e] at he
    exact did_load hag hsz hs hv he
  case store t x y =>
    simp only [opOf, Option.bind_eq_bind, Option.bind_eq_some_iff, Option.some.injEq, Prod.mk.injEq] at hop
    obtain ⟨sz, hsz, rfl, rfl⟩ := hop
    obtain ⟨v, w, e, hv, hw⟩ := arg2 hG hf hxs
    rw [e] at he
    exact did_store hsz hs hv hw he
  case nilCheck x =>
    simp only [opOf, Option.some.injEq, Prod.mk.injEq] at hop
    obtain ⟨rfl, rfl⟩ := hop
    obtain ⟨v, e, hv⟩ := arg1 hG hf hxs
    rw [e] at he
    refine did_nilck ⟨fun b o => ?_, fun f c => ?_⟩ hs hv he
    · by_cases hx : a.eval x = .pointer (some ⟨b, o, none⟩)
      · left; simp only [execOp, hx]; rfl
      · exact .inr hx
    · by_cases hx : a.eval x = .func (.func f) #[] c
      · left; simp only [execOp, hx]; rfl
      · exact .inr hx
  case binOp o t x y ct =>
    simp only [opOf] at hop
    have plain : opOf P fz esc tl ⟨dst, .binOp o t x y ct, ty, pos, after, guard⟩ = some (.bin o, [x, y]) → lop = .bin o → xs0 = [x, y] → Did P k s' out ((execOp a.eval ⟨dst, .binOp o t x y ct, ty, pos, after, guard⟩).run P k.w) := by
      intro _ e1 e2
      subst e1 e2
      obtain ⟨v, w, e, hv, hw⟩ := arg2 hG hf hxs
      rw [e] at he
      exact did_bin t x y hs hv hw he
    have plain' : lop = .bin o → xs0 = [x, y] → Did P k s' out ((execOp a.eval ⟨dst, .binOp o t x y ct, ty, pos, after, guard⟩).run P k.w) := by
      intro e1 e2
      subst e1 e2
      obtain ⟨v, w, e, hv, hw⟩ := arg2 hG hf hxs
      rw [e] at he
      exact did_bin t x y hs hv hw he
    have eqs : ∀ neg : Bool, o = (if neg then .neq else .eql) → (match P.underlying t with
      | some .bool => some (LOp.eqb neg, [x, y])
      | some (.int _) | some .string => some (.bin o, [x, y])
      | some (.struct _) | some (.array _ _) => (do
        let ks ← kindsT P 20 t
        bif P.eqGuardType P.depth t then none else some (.eqa neg ks, [x, y]))
      | some (.slice _) => bif isNilC y then some (LOp.eqs neg, [x, y]) else none
      | _ => none) = some (lop, xs0) → Did P k s' out ((execOp a.eval ⟨dst, .binOp o t x y ct, ty, pos, after, guard⟩).run P k.w) := by
      intro neg ho h
      have agg : aggT P t = some true → (do let ks ← kindsT P 20 t; bif P.eqGuardType P.depth t then none else some (LOp.eqa neg ks, [x, y])) = some (lop, xs0) → Did P k s' out ((execOp a.eval ⟨dst, .binOp o t x y ct, ty, pos, after, guard⟩).run P k.w) := by
        intro hag h
        simp only [Option.bind_eq_bind, Option.bind_eq_some_iff] at h
        obtain ⟨ks, hks, h⟩ := h
        cases hg : P.eqGuardType P.depth t with
        | true => rw [hg] at h; cases h
        | false =>
          rw [hg] at h
          simp only [cond_false, Option.some.injEq, Prod.mk.injEq] at h
          obtain ⟨rfl, rfl⟩ := h
          obtain ⟨v, w, e, hv, hw⟩ := arg2 hG hf hxs
          rw [e] at he
          subst ho
          exact did_eqa x y hks hag hg hs hv hw he
      split at h
      · rename_i ht
        simp only [Option.some.injEq, Prod.mk.injEq] at h
        obtain ⟨rfl, rfl⟩ := h
        obtain ⟨v, w, e, hv, hw⟩ := arg2 hG hf hxs
        rw [e] at he
        subst ho
        exact did_eqb x y ht hs hv hw he
      · simp only [Option.some.injEq, Prod.mk.injEq] at h
        exact plain' h.1.symm h.2.symm
      · simp only [Option.some.injEq, Prod.mk.injEq] at h
        exact plain' h.1.symm h.2.symm
      · rename_i fs ht
        exact agg (by unfold aggT; rw [ht]) h
      · rename_i n e ht
        exact agg (by unfold aggT; rw [ht]) h
      · rename_i e ht
        cases hy : isNilC y with
        | false => rw [hy] at h; cases h
        | true =>
          rw [hy] at h
          simp only [cond_true, Option.some.injEq, Prod.mk.injEq] at h
          obtain ⟨rfl, rfl⟩ := h
          obtain ⟨v, w, e', hv, hw⟩ := arg2 hG hf hxs
          rw [e'] at he
          subst ho
          obtain rfl := isNilC_eq hy
          exact did_eqs x _ ht hs hv he
      · cases h
    cases o
    case eql => exact eqs false rfl hop
    case neq => exact eqs true rfl hop
    all_goals
      simp only [Option.some.injEq, Prod.mk.injEq] at hop
      exact plain' hop.1.symm hop.2.symm
  case unOp o t x =>
    simp only [opOf, Option.some.injEq, Prod.mk.injEq] at hop
    obtain ⟨rfl, rfl⟩ := hop
    obtain ⟨v, e, hv⟩ := arg1 hG hf hxs
    rw [e] at he
    exact did_un hs hv he
  case convert src d x =>
    simp only [opOf, Option.bind_eq_bind, Option.bind_eq_some_iff] at hop
    obtain ⟨sd, hsd, hop⟩ := hop
    split at hop
    · rename_i kd hd
      simp only [Option.some.injEq, Prod.mk.injEq] at hop
      obtain ⟨rfl, rfl⟩ := hop
      obtain ⟨v, e, hv⟩ := arg1 hG hf hxs
      rw [e] at he
      exact did_cint hsd hd hs hv he
    · rename_i hd
      split at hop
      · rename_i hs2
        simp only [Option.some.injEq, Prod.mk.injEq] at hop
        obtain ⟨rfl, rfl⟩ := hop
        obtain ⟨v, e, hv⟩ := arg1 hG hf hxs
        rw [e] at he
        exact did_cstr hs2 hd hs hv he
      · rename_i e2 hs2
        split at hop
        · rename_i h8
          simp only [Option.some.injEq, Prod.mk.injEq] at hop
          obtain ⟨rfl, rfl⟩ := hop
          obtain ⟨v, e, hv⟩ := arg1 hG hf hxs
          rw [e] at he
          exact did_text hs2 h8 hd hs hv he
        · cases hop
      · cases hop
    · rename_i e2 hd
      split at hop
      · rename_i h1 h2 h3
        simp only [Option.some.injEq, Prod.mk.injEq] at hop
        obtain ⟨rfl, rfl⟩ := hop
        obtain ⟨v, e, hv⟩ := arg1 hG hf hxs
        rw [e] at he
        exact did_bytes h1 hd h2 hs hv he
      · rename_i e3 h1 h2 h3
        obtain ⟨hc, hop⟩ := bif_yes hop
        simp only [Option.some.injEq, Prod.mk.injEq] at hop
        obtain ⟨rfl, rfl⟩ := hop
        obtain ⟨v, e, hv⟩ := arg1 hG hf hxs
        rw [e] at he
        exact did_same h1 hd h2 (eq_of_beq hc) hs hv he
      · cases hop
    · cases hop
  case makeInterface t x =>
    simp only [opOf] at hop
    split at hop
    · cases hop
    · cases hop
    · rename_i h1 h2
      simp only [Option.some.injEq, Prod.mk.injEq] at hop
      obtain ⟨rfl, rfl⟩ := hop
      obtain ⟨v, e, hv⟩ := arg1 hG hf hxs
      rw [e] at he
      cases ht : P.underlying t with
      | none => exact absurd ht h2
      | some td => exact did_mki ht (fun m e => h1 m (by rw [ht, e])) hs hv he
  case makeFunc fn first caps =>
    cases fn <;> simp only [opOf] at hop <;> first
      | (cases hop; done)
      | skip
    rename_i f
    obtain ⟨hc, hop⟩ := bif_yes hop
    simp only [Option.some.injEq, Prod.mk.injEq] at hop
    obtain ⟨rfl, rfl⟩ := hop
    have hfirst : first = #[] := by simpa using hc
    subst hfirst
    obtain ⟨h1, h2⟩ := argsArr hG hf hxs
    have h3 : execOp a.eval ⟨dst, .makeFunc (.func f) #[] caps, ty, pos, after, guard⟩ = vS (Instr.makeFunc (.func f) #[] (caps.map a.eval)) := by simp [execOp, vS]
    rw [h3]
    cases hz : fz f with
    | false => rw [hz] at he; exact did_mkf hs h1 h2 he
    | true => rw [hz] at he; exact did_mkfz hs h1 h2 he
  case makeMap t r =>
    cases r with
    | none =>
      simp only [opOf, Option.some.injEq, Prod.mk.injEq] at hop
      obtain ⟨rfl, rfl⟩ := hop
      simp only [ofXs, mapO, Option.some.injEq] at hxs; subst hxs
      exact did_mkmap hs he
    | some r => simp only [opOf] at hop; cases hop
  case makeSlice t l c =>
    simp only [opOf] at hop
    split at hop
    · rename_i e ht
      simp only [Option.bind_eq_bind, Option.bind_eq_some_iff] at hop
      obtain ⟨z, hz, sz, hsz, by_, hby, hop⟩ := hop
      obtain ⟨hc, hop⟩ := bif_yes hop
      simp only [Option.some.injEq, Prod.mk.injEq] at hop
      obtain ⟨rfl, rfl⟩ := hop
      obtain ⟨v, w, e, hv, hw⟩ := arg2 hG hf hxs
      rw [e] at he
      exact did_mkslice ht hz hsz hby hs hv hw he
    · cases hop
  case slice t x lo hi mx =>
    cases mx with
    | some m => simp only [opOf] at hop; cases hop
    | none =>
      simp only [opOf] at hop
      split at hop
      · rename_i ht
        simp only [Option.some.injEq, Prod.mk.injEq] at hop
        obtain ⟨rfl, rfl⟩ := hop
        obtain ⟨v, lo', hi', e, hv, b1, b2, m1, m2, q1, q2⟩ := args_cut (s := s) hG hf hxs
        rw [e, ← b1, ← b2] at he
        have := did_sstr ht hs hv q1 q2 he
        rw [m1, m2] at this
        exact this
      · rename_i e ht
        simp only [Option.bind_eq_bind, Option.bind_eq_some_iff] at hop
        obtain ⟨sz, hsz, hop⟩ := hop
        simp only [Option.some.injEq, Prod.mk.injEq] at hop
        obtain ⟨rfl, rfl⟩ := hop
        obtain ⟨v, lo', hi', e, hv, b1, b2, m1, m2, q1, q2⟩ := args_cut (s := s) hG hf hxs
        rw [e, ← b1, ← b2] at he
        have := did_sslc ht hsz hs hv q1 q2 he
        rw [m1, m2] at this
        exact this
      · cases hop
  case fieldAddr t x f =>
    simp only [opOf, Option.bind_eq_bind, Option.bind_eq_some_iff] at hop
    obtain ⟨fd, hfd, sz, hsz, hop⟩ := hop
    cases h0 : Nat.beq sz 0 with
    | true => rw [h0] at hop; cases hop
    | false =>
      rw [h0] at hop
      simp only [cond_false, Option.some.injEq, Prod.mk.injEq] at hop
      obtain ⟨rfl, rfl⟩ := hop
      obtain ⟨v, e, hv⟩ := arg1 hG hf hxs
      rw [e] at he
      exact did_fad hfd hsz (fun e => by subst e; cases h0) hs hv he
  case field t x f =>
    simp only [opOf, Option.bind_eq_bind, Option.bind_eq_some_iff, Option.some.injEq, Prod.mk.injEq] at hop
    obtain ⟨fd, hfd, sz, hsz, ag, hag, rfl, rfl⟩ := hop
    obtain ⟨v, e, hv⟩ := arg1 hG hf hxs
    rw [e] at he
    exact did_fld hfd hag hsz hs hv he
  case indexAddr t x i =>
    simp only [opOf] at hop
    split at hop
    · rename_i n e ht
      simp only [Option.bind_eq_bind, Option.bind_eq_some_iff, Option.some.injEq, Prod.mk.injEq] at hop
      obtain ⟨sz, hsz, rfl, rfl⟩ := hop
      obtain ⟨v, w, e, hv, hw⟩ := arg2 hG hf hxs
      rw [e] at he
      exact did_iadA ht hsz hs hv hw he
    · rename_i e ht
      simp only [Option.bind_eq_bind, Option.bind_eq_some_iff] at hop
      obtain ⟨sz, hsz, hop⟩ := hop
      cases h0 : Nat.beq sz 0 with
      | true => rw [h0] at hop; cases hop
      | false =>
        rw [h0] at hop
        simp only [cond_false, Option.some.injEq, Prod.mk.injEq] at hop
        obtain ⟨rfl, rfl⟩ := hop
        obtain ⟨v, w, e, hv, hw⟩ := arg2 hG hf hxs
        rw [e] at he
        exact did_iadS ht hsz hs hv hw he
    · cases hop
  case index t x i =>
    simp only [opOf] at hop
    split at hop
    · rename_i ht
      simp only [Option.some.injEq, Prod.mk.injEq] at hop
      obtain ⟨rfl, rfl⟩ := hop
      obtain ⟨v, w, e, hv, hw⟩ := arg2 hG hf hxs
      rw [e] at he
      exact did_idxS ht hs hv hw he
    · rename_i n e ht
      simp only [Option.bind_eq_bind, Option.bind_eq_some_iff, Option.some.injEq, Prod.mk.injEq] at hop
      obtain ⟨sz, hsz, ag, hag, rfl, rfl⟩ := hop
      obtain ⟨v, w, e, hv, hw⟩ := arg2 hG hf hxs
      rw [e] at he
      exact did_idxA ht hag hsz hs hv hw he
    · cases hop
  case lookup t m x ok =>
    simp only [opOf] at hop
    split at hop
    · rename_i kt e ht
      simp only [Option.bind_eq_bind, Option.bind_eq_some_iff, Option.some.injEq, Prod.mk.injEq] at hop
      obtain ⟨z, hz, ks, hks, rfl, rfl⟩ := hop
      obtain ⟨v, w, e, hv, hw⟩ := arg2 hG hf hxs
      rw [e] at he
      exact did_look ht hz hks hs hv hw he
    · cases hop
  case mapUpdate t m x y =>
    simp only [opOf] at hop
    split at hop
    · rename_i kt e ht
      simp only [Option.bind_eq_bind, Option.bind_eq_some_iff, Option.some.injEq, Prod.mk.injEq] at hop
      obtain ⟨ks, hks, rfl, rfl⟩ := hop
      obtain ⟨v, w, u, e, hv, hw, hu⟩ := arg3 hG hf hxs
      rw [e] at he
      exact did_mset ht hks hs hv hw hu he
    · cases hop
  case extract x i =>
    simp only [opOf, Option.some.injEq, Prod.mk.injEq] at hop
    obtain ⟨rfl, rfl⟩ := hop
    obtain ⟨v, e, hv⟩ := arg1 hG hf hxs
    rw [e] at he
    exact did_ext hs hv he
  case panic x =>
    simp only [opOf, Option.some.injEq, Prod.mk.injEq] at hop
    obtain ⟨rfl, rfl⟩ := hop
    obtain ⟨v, e, hv⟩ := arg1 hG hf hxs
    rw [e] at he
    exact did_panic hs hv he
  case call c =>
    obtain ⟨callee, cargs, cts⟩ := c
    simp only [opOf] at hop
    split at hop
    · rename_i f
      simp only [Option.some.injEq, Prod.mk.injEq] at hop
      obtain ⟨rfl, rfl⟩ := hop
      have h1 := did_call hev hs hG (argsArr (s := s) hG hf hxs) dst he
      have h2 : (execOp a.eval ⟨dst, .call ⟨.value (.func f), cargs, cts⟩, ty, pos, after, guard⟩).run P k.w = (callFunc f (cargs.map a.eval)).run P k.w := by
        simp [execOp, resolve, Act.eval, Deferred.ofValue, invoke]
      rw [h2]; exact h1
    · rename_i x hx
      simp only [Option.some.injEq, Prod.mk.injEq] at hop
      obtain ⟨rfl, rfl⟩ := hop
      obtain ⟨hxs1, ys, hxs2, hxs3⟩ : ∃ X ys, ofX G x = some X ∧ ofXs G cargs.toList = some ys ∧ xs = X :: ys := by
        simp only [ofXs, mapO] at hxs
        split at hxs
        · rename_i X hX
          split at hxs
          · rename_i ys hys
            simp only [Option.some.injEq] at hxs
            exact ⟨X, ys, hX, hys, hxs.symm⟩
          · cases hxs
        · cases hxs
      obtain ⟨hys, rfl⟩ := hxs3
      have h1 := did_callv hev hs hG (eval_rel hG hf hxs2) (argsArr (s := s) hG hf hys) dst he
      exact h1
    · split at hop
      · rename_i t u hts
        have hcts : cts = #[t, u] := by rw [← Array.toArray_toList (xs := cts), hts]
        subst hcts
        have key : ∀ (e : TypeId) (hu : ∃ d, P.underlying u = some d ∧ (d = .string ∨ ∃ e', d = .slice e')), P.underlying t = some (.slice e) → (do
          let sz ← sizeT P e; let by_ ← bytesT P e
          let z ← zeroT P e
          bif Nat.beq sz 0 || !Nat.beq z.cells.length sz || Nat.beq by_ 0 then none else some (LOp.app sz by_, cargs.toList)) = some (lop, xs0) →
          Did P k s' out ((execOp a.eval ⟨dst, .call ⟨.builtin .append, cargs, #[t, u]⟩, ty, pos, after, guard⟩).run P k.w) := by
          intro e hu ht hop
          simp only [Option.bind_eq_bind, Option.bind_eq_some_iff] at hop
          obtain ⟨sz, hsz, by_, hby, z, hz, hop⟩ := hop
          cases hb : (Nat.beq sz 0 || !Nat.beq z.cells.length sz || Nat.beq by_ 0) with
          | true => rw [hb] at hop; cases hop
          | false =>
            rw [hb] at hop
            simp only [cond_false, Option.some.injEq, Prod.mk.injEq] at hop
            obtain ⟨rfl, rfl⟩ := hop
            simp only [Bool.or_eq_false_iff, Bool.not_eq_false'] at hb
            obtain ⟨⟨b1, b2⟩, b3⟩ := hb
            have ha := argsArr (s := s) hG hf hxs
            generalize xs.map (X.eval s.fr) = l at ha he
            have h2 : (execOp a.eval ⟨dst, .call ⟨.builtin .append, cargs, #[t, u]⟩, ty, pos, after, guard⟩).run P k.w = (vS (Builtin.append_ #[t, u] ty (cargs.map a.eval))).run P k.w := by
              simp [execOp, resolve, invoke, builtin]
            rw [h2]
            generalize cargs.map a.eval = arr at ha
            match l, ha, he with
            | [v, w], ha, he =>
              obtain ⟨x, y, rfl, hv, hw⟩ := args_two ha
              exact did_app (appT_of ht hu hsz hby hz (fun e => by subst e; cases b1) (beq_nat b2) (fun e => by subst e; cases b3)) hs hv hw he
            | [], _, he => exact dead he rfl
            | [_], _, he => exact dead he rfl
            | _ :: _ :: _ :: _, _, he => exact dead he rfl
        split at hop
        · rename_i e e' ht hu
          exact key e ⟨_, hu, .inr ⟨_, rfl⟩⟩ ht hop
        · rename_i e ht hu
          exact key e ⟨_, hu, .inl rfl⟩ ht hop
        · cases hop
      · cases hop
    · split at hop
      · rename_i t hts
        have hcts : cts = #[t] := by rw [← Array.toArray_toList (xs := cts), hts]
        subst hcts
        have h2 : (execOp a.eval ⟨dst, .call ⟨.builtin .len, cargs, #[t]⟩, ty, pos, after, guard⟩).run P k.w = (vS (Builtin.len_ #[t] ty (cargs.map a.eval))).run P k.w := by
          simp [execOp, resolve, invoke, builtin]
        rw [h2]
        split at hop
        all_goals first
          | (cases hop; done)
          | skip
        all_goals
          simp only [Option.some.injEq, Prod.mk.injEq] at hop
          obtain ⟨rfl, rfl⟩ := hop
          have ha := argsArr (s := s) hG hf hxs
          generalize xs.map (X.eval s.fr) = l at ha he
          generalize cargs.map a.eval = arr at ha
        · rename_i ht
          match l, ha, he with
          | [v], ha, he =>
            obtain ⟨x, rfl, hv⟩ := args_one ha
            exact did_len0 ht hs hv he
          | [], _, he => exact dead he rfl
          | v :: _ :: _, _, he => exact dead he (by cases v <;> rfl)
        · rename_i ht
          match l, ha, he with
          | [v], ha, he =>
            obtain ⟨x, rfl, hv⟩ := args_one ha
            exact did_len1 ht hs hv he
          | [], _, he => exact dead he rfl
          | v :: _ :: _, _, he => exact dead he (by cases v <;> rfl)
        · rename_i ht
          match l, ha, he with
          | [v], ha, he =>
            obtain ⟨x, rfl, hv⟩ := args_one ha
            exact did_len2 ht hs hv he
          | [], _, he => exact dead he rfl
          | v :: _ :: _, _, he => exact dead he (by cases v <;> rfl)
      · cases hop
    · simp only [Option.some.injEq, Prod.mk.injEq] at hop
      obtain ⟨rfl, rfl⟩ := hop
      have h2 : (execOp a.eval ⟨dst, .call ⟨.builtin .max, cargs, cts⟩, ty, pos, after, guard⟩).run P k.w = (vS (Builtin.max_ cts ty (cargs.map a.eval))).run P k.w := by
        simp [execOp, resolve, invoke, builtin]
      rw [h2]
      have ha := argsArr (s := s) hG hf hxs
      generalize xs.map (X.eval s.fr) = l at ha he
      generalize cargs.map a.eval = arr at ha
      match l, ha, he with
      | [v, w], ha, he =>
        obtain ⟨x, y, rfl, hv, hw⟩ := args_two ha
        exact did_minmax (mx := true) (ts := cts) (t := ty) hs hv hw he
      | [], _, he => exact dead he rfl
      | [v], _, he => exact dead he (by cases v <;> rfl)
      | v :: w :: _ :: _, _, he => exact dead he (by cases v <;> first | rfl | (cases w <;> rfl))
    · simp only [Option.some.injEq, Prod.mk.injEq] at hop
      obtain ⟨rfl, rfl⟩ := hop
      have h2 : (execOp a.eval ⟨dst, .call ⟨.builtin .min, cargs, cts⟩, ty, pos, after, guard⟩).run P k.w = (vS (Builtin.min_ cts ty (cargs.map a.eval))).run P k.w := by
        simp [execOp, resolve, invoke, builtin]
      rw [h2]
      have ha := argsArr (s := s) hG hf hxs
      generalize xs.map (X.eval s.fr) = l at ha he
      generalize cargs.map a.eval = arr at ha
      match l, ha, he with
      | [v, w], ha, he =>
        obtain ⟨x, y, rfl, hv, hw⟩ := args_two ha
        exact did_minmax (mx := false) (ts := cts) (t := ty) hs hv hw he
      | [], _, he => exact dead he rfl
      | [v], _, he => exact dead he (by cases v <;> rfl)
      | v :: w :: _ :: _, _, he => exact dead he (by cases v <;> first | rfl | (cases w <;> rfl))
    · cases hop
  all_goals
    simp only [opOf] at hop
    cases hop
end
end Go.Proofs.YthpggdlhoegndaaDoor.LM
