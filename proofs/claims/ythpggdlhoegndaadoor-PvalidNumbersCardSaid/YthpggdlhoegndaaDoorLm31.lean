/-
  CALLS WITHOUT FUEL: what the evaluator answers with some fuel it answers with more; 'Call' is that answer.
-/
import Derived.Test.YthpggdlhoegndaaDoorLm25
set_option linter.all false
namespace Go.Proofs.YthpggdlhoegndaaDoor.LM
open Go

/-- one evaluator answers whatever another does -/
def EvLe (ev ev' : Ev) : Prop := ∀ f a h r, ev f a h = some r → ev' f a h = some r
theorem EvLe.refl (ev : Ev) : EvLe ev ev := fun _ _ _ _ h => h

theorem callPure_mono {ev ev' : Ev} (H : EvLe ev ev') {f : Nat} {vs : List V} {o : Out} (h : callPure ev f vs = some o) : callPure ev' f vs = some o := by
  unfold callPure at h ⊢
  split at h
  · rename_i r h' he; rw [H _ _ _ _ he]; exact h
  · cases h
theorem callAll_mono {ev ev' : Ev} (H : EvLe ev ev') {f : Nat} {vs : List V} {g : HS} {o : Out × HS} (h : callAll ev f vs g = some o) : callAll ev' f vs g = some o := by
  unfold callAll at h ⊢
  cases hb : (vs.all (V.inV yes) && g.allIn yes) with
  | false => rw [hb] at h; cases h
  | true =>
    rw [hb] at h
    simp only [cond_true] at h ⊢
    split at h
    · rename_i r h' he; rw [H _ _ _ _ he]; exact h
    · cases h
theorem callSome_mono {ev ev' : Ev} (H : EvLe ev ev') {f : Nat} {vs : List V} {g : HS} {o : Out × HS} (h : callSome ev f vs g = some o) : callSome ev' f vs g = some o := by
  unfold callSome at h ⊢
  cases hb : (vs.all (V.inV yes) && g.allIn yes) with
  | false => rw [hb] at h; cases h
  | true =>
    rw [hb] at h
    simp only [cond_true] at h ⊢
    split at h
    · rename_i r h' he; rw [H _ _ _ _ he]; exact h
    · cases h

/-- what an operation does is known from some of what it calls -/
structure ActLe (a b : Act1) : Prop where
  acc : ∀ h, a.acc h = b.acc h
  run : ∀ s r, exec1 a s = some r → exec1 b s = some r
theorem ActLe.refl (a : Act1) : ActLe a a := ⟨fun _ => rfl, fun _ _ h => h⟩
theorem ActLe.pure {a b : Option Out} (h : ∀ o, a = some o → b = some o) : ActLe (.pure a) (.pure b) := ⟨fun _ => rfl, fun s r hr => by
  simp only [exec1] at hr ⊢
  cases a with
  | none => cases hr
  | some o => rw [h o rfl]; exact hr⟩
theorem ActLe.obs {vs : List V} {f g : HS → Option (Out × HS)} (h : ∀ x o, f x = some o → g x = some o) : ActLe (.obs vs f) (.obs vs g) := ⟨fun _ => rfl, fun s r hr => by
  simp only [exec1] at hr ⊢
  split at hr
  · rename_i o h' he; rw [h _ _ he]; exact hr
  · cases hr⟩
theorem ActLe.hpW {f g : HS → Option (Out × HS)} (h : ∀ x o, f x = some o → g x = some o) : ActLe (.hpW f) (.hpW g) := ⟨fun _ => rfl, fun s r hr => by
  simp only [exec1] at hr ⊢
  split at hr
  · rename_i o h' he; rw [h _ _ he]; exact hr
  · cases hr⟩

theorem callV_mono (cf : Cfg) {ev ev' : Ev} (H : EvLe ev ev') (f : Nat) (vs : List V) : ActLe (callV cf ev f vs) (callV cf ev' f vs) := by
  unfold callV
  split
  · exact .obs fun x o h => callSome_mono H h
  · exact .hpW fun x o h => callAll_mono H h
  · cases vs.any V.hasRow with
    | true =>
      refine .hpW fun x o h => ?_
      split at h
      · split at h
        · rename_i he; rw [callPure_mono H he]; exact h
        · cases h
      · cases h
    | false =>
      refine .pure fun o h => ?_
      split at h
      · exact callPure_mono H h
      · cases h
theorem plan_mono (cf : Cfg) {ev ev' : Ev} (H : EvLe ev ev') (dst : Option Nat) (op : LOp) (vs : List V) : ActLe (plan cf ev dst op vs) (plan cf ev' dst op vs) := by
  cases op with
  | call f => exact callV_mono cf H f vs
  | callv =>
    simp only [plan]
    unfold plan_callv
    split
    · exact callV_mono cf H _ _
    · exact .refl _
  | _ => exact .refl _

theorem oneOp_mono (cf : Cfg) {ev ev' : Ev} (H : EvLe ev ev') {o : LOper} {s : St} {r : Ex × St} (h : oneOp cf ev o s = some r) : oneOp cf ev' o s = some r := by
  unfold oneOp at h ⊢
  cases hw : wanted s.fr o.guard with
  | false => rw [hw] at h; exact h
  | true =>
    rw [hw] at h
    simp only [cond_true] at h ⊢
    split at h
    · rename_i x s' he; rw [(plan_mono cf H _ _ _).run _ _ he]; exact h
    · cases h
theorem accOf_mono (cf : Cfg) {ev ev' : Ev} (H : EvLe ev ev') (o : LOper) (s : St) : accOf cf ev o s = accOf cf ev' o s := by
  unfold accOf; rw [(plan_mono cf H _ _ _).acc]
theorem runOps_mono (cf : Cfg) {ev ev' : Ev} (H : EvLe ev ev') : ∀ (ops : List LOper) (s : St) (r : Ex × St), runOps cf ev ops s = some r → runOps cf ev' ops s = some r
  | [], s, r, h => h
  | o :: l, s, r, h => by
    unfold runOps at h ⊢
    split at h
    · rename_i s' he; rw [oneOp_mono cf H he]; exact runOps_mono cf H l _ _ h
    · rename_i e hn
      cases he : oneOp cf ev o s with
      | none => rw [he] at h; cases h
      | some p =>
        rw [oneOp_mono cf H he]
        rw [he] at h hn
        obtain ⟨x, s'⟩ := p
        cases x with
        | normal => exact (hn s' rfl).elim
        | _ => exact h
theorem runDraw_cons (cf : Cfg) (ev : Ev) (o : LOper) (l : List LOper) (as : List Acc) (s : St) : runDraw cf ev (o :: l) as s =
    bif o.un.all fun i => Acc.ok (as.getD i .hpW) (accOf cf ev o s) then
      match oneOp cf ev o s with
      | some (.normal, s') => runDraw cf ev l (as ++ [accOf cf ev o s]) s'
      | _ => Option.none
    else Option.none := rfl
theorem runDraw_mono (cf : Cfg) {ev ev' : Ev} (H : EvLe ev ev') : ∀ (ops : List LOper) (as : List Acc) (s : St) (r : Ex × St), runDraw cf ev ops as s = some r → runDraw cf ev' ops as s = some r
  | [], as, s, r, h => h
  | o :: l, as, s, r, h => by
    rw [runDraw_cons] at h ⊢
    simp only [accOf_mono cf H o s] at h
    cases hb : (o.un.all fun i => Acc.ok (as.getD i .hpW) (accOf cf ev' o s)) with
    | false => rw [hb] at h; cases h
    | true =>
      rw [hb] at h
      simp only [cond_true] at h ⊢
      split at h
      · rename_i s' he; rw [oneOp_mono cf H he]; exact runDraw_mono cf H l _ _ _ h
      · cases h
theorem iter_mono {b b' : St → Option (Ex × St)} (H : ∀ s r, b s = some r → b' s = some r) : ∀ (n m : Nat), n ≤ m → ∀ (s : St) (r : Ex × St), iter b n s = some r → iter b' m s = some r
  | 0, _, _, s, r, h => by cases h
  | n + 1, 0, hm, s, r, h => by omega
  | n + 1, m + 1, hm, s, r, h => by
    unfold iter at h ⊢
    split at h
    · rename_i s' he; rw [H _ _ he]; exact iter_mono H n m (by omega) _ _ h
    · rename_i e hn
      cases he : b s with
      | none => rw [he] at h; cases h
      | some p =>
        rw [H _ _ he]
        rw [he] at h hn
        obtain ⟨x, s'⟩ := p
        cases x with
        | normal => exact (hn s' rfl).elim
        | _ => exact h
theorem evalCode_mono (cf : Cfg) {ev ev' : Ev} (H : EvLe ev ev') {n m : Nat} (hm : n ≤ m) : ∀ (c : LCode) (s : St) (r : Ex × St), evalCode cf ev n c s = some r → evalCode cf ev' m c s = some r
  | .skip, s, r, h => h
  | .reg ops false, s, r, h => runOps_mono cf H ops s r h
  | .reg ops true, s, r, h => runDraw_mono cf H ops [] s r h
  | .seq a b, s, r, h => by
    unfold evalCode at h ⊢
    split at h
    · rename_i s' he; rw [evalCode_mono cf H hm a _ _ he]; exact evalCode_mono cf H hm b _ _ h
    · rename_i e hn
      cases he : evalCode cf ev n a s with
      | none => rw [he] at h; cases h
      | some p =>
        rw [evalCode_mono cf H hm a _ _ he]
        rw [he] at h hn
        obtain ⟨x, s'⟩ := p
        cases x with
        | normal => exact (hn s' rfl).elim
        | _ => exact h
  | .cond x a b, s, r, h => by
    unfold evalCode at h ⊢
    split at h
    · exact evalCode_mono cf H hm a _ _ h
    · exact evalCode_mono cf H hm b _ _ h
    · cases h
  | .block id a, s, r, h => by
    unfold evalCode at h ⊢
    split at h
    · rename_i id' s' he; rw [evalCode_mono cf H hm a _ _ he]; exact h
    · rename_i e hn
      cases he : evalCode cf ev n a s with
      | none => rw [he] at h; cases h
      | some p =>
        rw [evalCode_mono cf H hm a _ _ he]
        rw [he] at h hn
        obtain ⟨x, s'⟩ := p
        cases x with
        | exit id' => exact (hn id' s' rfl).elim
        | _ => exact h
  | .loop a, s, r, h => by
    unfold evalCode at h ⊢
    exact iter_mono (fun s r hs => evalCode_mono cf H hm a s r hs) n m hm s r h
  | .exit id, s, r, h => h
  | .ret, s, r, h => h
  | .frz t, s, r, h => h
theorem evalCall_mono (cf : Cfg) : ∀ n, EvLe (evalCall cf n) (evalCall cf (n + 1))
  | 0, f, a, h, r, he => by cases he
  | n + 1, f, a, h, r, he => by
    have H := evalCall_mono cf n
    unfold evalCall at he ⊢
    split at he
    · rename_i lf hl
      cases hb : Nat.ble (a.length + (lf.nt - a.length)) 4095 with
      | false => rw [hb] at he; cases he
      | true =>
        rw [hb] at he
        simp only [cond_true] at he ⊢
        cases hc : evalCode cf (evalCall cf n) n lf.body (enterSt lf.nt a h) with
        | none => rw [hc] at he; cases he
        | some p => rw [evalCode_mono cf H (Nat.le_succ n) _ _ _ hc]; rw [hc] at he; exact he
    · exact he
    · cases he
theorem evalCall_le (cf : Cfg) {n m : Nat} (h : n ≤ m) : EvLe (evalCall cf n) (evalCall cf m) := by
  induction h with
  | refl => exact .refl _
  | step _ ih => exact fun f a h r he => evalCall_mono cf _ f a h r (ih f a h r he)

/-- what a call answers, if there is a fuel with which it does -/
def CallsTo (cf : Cfg) (f : Nat) (a : List V) (h : HS) (r : Res × HS) : Prop := ∃ n, evalCall cf n f a h = some r
theorem CallsTo.uniq {cf : Cfg} {f : Nat} {a : List V} {h : HS} {r r' : Res × HS} (x : CallsTo cf f a h r) (y : CallsTo cf f a h r') : r = r' := by
  obtain ⟨n, hn⟩ := x
  obtain ⟨m, hm⟩ := y
  have h1 := evalCall_le cf (Nat.le_max_left n m) _ _ _ _ hn
  have h2 := evalCall_le cf (Nat.le_max_right n m) _ _ _ _ hm
  rw [h1] at h2
  exact Option.some.inj h2
open Classical in
noncomputable def Call (cf : Cfg) : Ev := fun f a h => if H : ∃ r, CallsTo cf f a h r then some (Classical.choose H) else none
theorem Call_spec {cf : Cfg} {f : Nat} {a : List V} {h : HS} {r : Res × HS} (x : Call cf f a h = some r) : CallsTo cf f a h r := by
  unfold Call at x
  split at x
  · rename_i H; rw [← Option.some.inj x]; exact Classical.choose_spec H
  · cases x
theorem Call_eq {cf : Cfg} {f : Nat} {a : List V} {h : HS} {r : Res × HS} (x : CallsTo cf f a h r) : Call cf f a h = some r := by
  unfold Call
  rw [dif_pos ⟨r, x⟩]
  exact congrArg some ((Classical.choose_spec (⟨r, x⟩ : ∃ r, CallsTo cf f a h r)).uniq x)
theorem Call_run {cf : Cfg} {n f : Nat} {a : List V} {h : HS} {r : Res × HS} (x : evalCall cf n f a h = some r) : Call cf f a h = some r := Call_eq ⟨n, x⟩

/-! ### an operation over 'Call' is one over some fuel -/
theorem callPure_cont {cf : Cfg} {f : Nat} {vs : List V} {o : Out} (h : callPure (Call cf) f vs = some o) : ∃ n, callPure (evalCall cf n) f vs = some o := by
  unfold callPure at h
  split at h
  · rename_i r h' he
    obtain ⟨n, hn⟩ := Call_spec he
    exact ⟨n, by unfold callPure; rw [hn]; exact h⟩
  · cases h
theorem callAll_cont {cf : Cfg} {f : Nat} {vs : List V} {g : HS} {o : Out × HS} (h : callAll (Call cf) f vs g = some o) : ∃ n, callAll (evalCall cf n) f vs g = some o := by
  unfold callAll at h
  cases hb : (vs.all (V.inV yes) && g.allIn yes) with
  | false => rw [hb] at h; cases h
  | true =>
    rw [hb] at h
    simp only [cond_true] at h
    split at h
    · rename_i r h' he
      obtain ⟨n, hn⟩ := Call_spec he
      exact ⟨n, by unfold callAll; rw [hb, hn]; exact h⟩
    · cases h
theorem callSome_cont {cf : Cfg} {f : Nat} {vs : List V} {g : HS} {o : Out × HS} (h : callSome (Call cf) f vs g = some o) : ∃ n, callSome (evalCall cf n) f vs g = some o := by
  unfold callSome at h
  cases hb : (vs.all (V.inV yes) && g.allIn yes) with
  | false => rw [hb] at h; cases h
  | true =>
    rw [hb] at h
    simp only [cond_true] at h
    split at h
    · rename_i r h' he
      obtain ⟨n, hn⟩ := Call_spec he
      exact ⟨n, by unfold callSome; rw [hb, hn]; exact h⟩
    · cases h
theorem callV_cont {cf : Cfg} {f : Nat} {vs : List V} {s : St} {r : Out × St} (h : exec1 (callV cf (Call cf) f vs) s = some r) : ∃ n, exec1 (callV cf (evalCall cf n) f vs) s = some r := by
  unfold callV at h
  split at h
  · rename_i hi
    simp only [exec1] at h
    split at h
    · rename_i he
      obtain ⟨n, hn⟩ := callSome_cont he
      exact ⟨n, by unfold callV; rw [hi]; simp only [exec1, hn]; exact h⟩
    · cases h
  · rename_i hi
    simp only [exec1] at h
    split at h
    · rename_i he
      obtain ⟨n, hn⟩ := callAll_cont he
      exact ⟨n, by unfold callV; rw [hi]; simp only [exec1, hn]; exact h⟩
    · cases h
  · rename_i h1 h2
    unfold callV
    cases hb : vs.any V.hasRow with
    | true =>
      rw [hb] at h
      simp only [cond_true, exec1] at h
      split at h
      · rename_i he
        split at he
        · rename_i vs' h' hs
          split at he
          · rename_i o hc
            obtain ⟨n, hn⟩ := callPure_cont hc
            refine ⟨n, ?_⟩
            split
            · exact (h1 (by assumption)).elim
            · exact (h2 (by assumption)).elim
            · simp only [cond_true, exec1, hs, hn]
              cases he
              exact h
          · cases he
        · cases he
      · cases h
    | false =>
      rw [hb] at h
      simp only [cond_false, exec1] at h
      split at h
      · rename_i he
        split at he
        · rename_i vs' hs
          obtain ⟨n, hn⟩ := callPure_cont he
          refine ⟨n, ?_⟩
          split
          · exact (h1 (by assumption)).elim
          · exact (h2 (by assumption)).elim
          · simp only [cond_false, exec1, hs, hn]; exact h
        · cases he
      · cases h
theorem plan_cont {cf : Cfg} {dst : Option Nat} {op : LOp} {vs : List V} {s : St} {r : Out × St} (h : exec1 (plan cf (Call cf) dst op vs) s = some r) :
    ∃ n, exec1 (plan cf (evalCall cf n) dst op vs) s = some r := by
  cases op with
  | call f => exact callV_cont h
  | callv =>
    simp only [plan] at h ⊢
    unfold plan_callv at h ⊢
    split at h
    · exact callV_cont h
    · cases h
  | _ => exact ⟨0, h⟩
theorem oneOp_cont {cf : Cfg} {o : LOper} {s : St} {r : Ex × St} (h : oneOp cf (Call cf) o s = some r) : ∃ n, oneOp cf (evalCall cf n) o s = some r := by
  unfold oneOp at h
  cases hw : wanted s.fr o.guard with
  | false => rw [hw] at h; exact ⟨0, by unfold oneOp; rw [hw]; exact h⟩
  | true =>
    rw [hw] at h
    simp only [cond_true] at h
    split at h
    · rename_i x s' he
      obtain ⟨n, hn⟩ := plan_cont he
      exact ⟨n, by unfold oneOp; rw [hw]; simp only [cond_true, hn]; exact h⟩
    · cases h
theorem le_call (cf : Cfg) (n : Nat) : EvLe (evalCall cf n) (Call cf) := fun _ _ _ _ h => Call_run h
theorem runOps_cont {cf : Cfg} : ∀ (ops : List LOper) (s : St) (r : Ex × St), runOps cf (Call cf) ops s = some r → ∃ n, runOps cf (evalCall cf n) ops s = some r
  | [], s, r, h => ⟨0, h⟩
  | o :: l, s, r, h => by
    unfold runOps at h
    split at h
    · rename_i s' he
      obtain ⟨n, hn⟩ := oneOp_cont he
      obtain ⟨m, hm⟩ := runOps_cont l _ _ h
      refine ⟨max n m, ?_⟩
      unfold runOps
      rw [oneOp_mono cf (evalCall_le cf (Nat.le_max_left n m)) hn]
      exact runOps_mono cf (evalCall_le cf (Nat.le_max_right n m)) l _ _ hm
    · rename_i e hn
      cases he : oneOp cf (Call cf) o s with
      | none => rw [he] at h; cases h
      | some p =>
        obtain ⟨n, hn'⟩ := oneOp_cont he
        refine ⟨n, ?_⟩
        unfold runOps
        rw [hn']
        rw [he] at h hn
        obtain ⟨x, s'⟩ := p
        cases x with
        | normal => exact (hn s' rfl).elim
        | _ => exact h
theorem runDraw_cont {cf : Cfg} : ∀ (ops : List LOper) (as : List Acc) (s : St) (r : Ex × St), runDraw cf (Call cf) ops as s = some r → ∃ n, runDraw cf (evalCall cf n) ops as s = some r
  | [], as, s, r, h => ⟨0, h⟩
  | o :: l, as, s, r, h => by
    rw [runDraw_cons] at h
    cases hb : (o.un.all fun i => Acc.ok (as.getD i .hpW) (accOf cf (Call cf) o s)) with
    | false => rw [hb] at h; cases h
    | true =>
      rw [hb] at h
      simp only [cond_true] at h
      split at h
      · rename_i s' he
        obtain ⟨n, hn⟩ := oneOp_cont he
        obtain ⟨m, hm⟩ := runDraw_cont l _ _ _ h
        refine ⟨max n m, ?_⟩
        rw [runDraw_cons]
        simp only [accOf_mono cf (le_call cf (max n m)), hb, cond_true]
        rw [oneOp_mono cf (evalCall_le cf (Nat.le_max_left n m)) hn]
        exact runDraw_mono cf (evalCall_le cf (Nat.le_max_right n m)) l _ _ _ hm
      · cases h
end Go.Proofs.YthpggdlhoegndaaDoor.LM
