/-
  FUNCTIONS: what the evaluator's call answers, the machine's call answers.
-/
import Derived.Test.YthpggdlhoegndaaDoorLm28
set_option linter.all false
namespace Go.Proofs.YthpggdlhoegndaaDoor.LM
open Go

section
variable {P : Program} {G : Nat → Option (List V)} {cf : Cfg} {ev : Ev}

theorem resV_exec {s : St} {t : Nat} {ag : Bool} {sz : Nat} {v : V} (h : resV s (.cell t ag sz) = some v) : exec1 (loadV ag sz (s.fr.get t)) s = some (.val v, s) := by
  simp only [resV] at h
  split at h
  · rename_i e; rw [e]; simp only [Option.some.injEq] at h; subst h; rfl
  · rename_i u f e
    rw [e]
    split at h
    · rename_i l hl
      split at h
      · rename_i w hw
        simp only [Option.some.injEq] at h; subst h
        simp only [exec1, hl, hw]
      · cases h
    · cases h
  · rename_i i f e
    rw [e]
    split at h
    · rename_i o ho
      split at h
      · rename_i w hw
        simp only [Option.some.injEq] at h; subst h
        simp only [exec1, ho, hw]
      · cases h
    · cases h
  · cases h
theorem tmp_rel {k : Ctx} {fr : Fr} {tmps : Array Value} (hf : FR k fr tmps) (t : Nat) : VR k (fr.get t) (tmps.getD t undef) := by
  have := eval_rel (G := fun _ => none) (a := { tmps := tmps, defers := [] }) (k := k) (fun g cs h => by cases h) hf (x := .tmp t) (y := .t t) rfl
  exact this
def resS (tmps : Array Value) : ResultVar → Sem Value
  | .tmp t => pure (tmps.getD t undef)
  | .cell ad t => do loadVar t (← asAddr (tmps.getD ad undef))
theorem res_run {k : Ctx} {s : St} {a : Act} {r : ResultVar} {rv : RV} {v : V} (hr : Rel k s a) (h1 : resOf P r = some rv) (h2 : resV s rv = some v) :
    ∃ x, (resS a.tmps r).run P k.w = .ok x k.w ∧ VR k v x := by
  cases r with
  | tmp t =>
    simp only [resOf, Option.some.injEq] at h1; subst h1
    simp only [resV, Option.some.injEq] at h2; subst h2
    exact ⟨_, rfl, tmp_rel hr.fr t⟩
  | cell ad t =>
    simp only [resOf] at h1
    split at h1
    · rename_i ag sz hag hsz
      simp only [Option.some.injEq] at h1; subst h1
      have hv := tmp_rel hr.fr ad
      have he := resV_exec h2
      obtain ⟨_, u, x, hu, hx, hxv⟩ := load_at hag hsz hr.at_ hv he
      simp only [Out.val.injEq] at hu; subst hu
      refine ⟨x, ?_, hxv⟩
      have hp : (s.fr.get ad).isPtr = true := by
        revert he
        generalize s.fr.get ad = y
        intro he
        cases y <;> first
          | rfl
          | exact dead he rfl
      obtain ⟨b, o, hbo⟩ := ptr_inv hv hp
      show Sem.run P (do loadVar t (← asAddr (a.tmps.getD ad undef))) k.w = _
      rw [hbo] at hx ⊢
      simp only [Instr.loadAt, Instr.sureAddr, Sem.run_bind, Sem.run_pure, Result.andThen_ok] at hx
      simp only [asAddr, Sem.run_bind, Sem.run_pure, Result.andThen_ok]
      exact hx
    · cases h1
theorem results_run {k : Ctx} {s : St} {a : Act} (hr : Rel k s a) : ∀ (rs : List ResultVar) (rvs : List RV) (vs : List V), mapO (resOf P) rs = some rvs → mapO (resV s) rvs = some vs →
    ∃ xs : List Value, (rs.mapM (resS a.tmps)).run P k.w = .ok xs k.w ∧ xs.length = vs.length ∧
      ∀ (i : Nat) (v : V) (x : Value), vs[i]? = some v → xs[i]? = some x → VR k v x
  | [], rvs, vs, h1, h2 => by
    simp only [mapO, Option.some.injEq] at h1; subst h1
    simp only [mapO, Option.some.injEq] at h2; subst h2
    exact ⟨[], by simp, rfl, fun i v x h => by simp at h⟩
  | r :: rs, rvs, vs, h1, h2 => by
    simp only [mapO] at h1
    split at h1
    · rename_i rv hrv
      split at h1
      · rename_i rvs' hrvs
        simp only [Option.some.injEq] at h1; subst h1
        simp only [mapO] at h2
        split at h2
        · rename_i v hv
          split at h2
          · rename_i vs' hvs
            simp only [Option.some.injEq] at h2; subst h2
            obtain ⟨x, hx, hxv⟩ := res_run hr hrv hv
            obtain ⟨xs, hxs, hl, hall⟩ := results_run hr rs rvs' vs' hrvs hvs
            refine ⟨x :: xs, ?_, by simp [hl], fun i u y hi hy => ?_⟩
            · simp only [List.mapM_cons, Sem.run_bind, hx, hxs, Result.andThen_ok, Sem.run_pure]
            · cases i with
              | zero => simp at hi hy; subst hi; subst hy; exact hxv
              | succ i => exact hall i u y (by simpa using hi) (by simpa using hy)
          · cases h2
        · cases h2
      · cases h1
    · cases h1
theorem results_pack {k : Ctx} {s : St} {a : Act} {fn : Func} {rvs : List RV} {vs : List V} (hr : Rel k s a) (h1 : mapO (resOf P) fn.results.toList = some rvs) (h2 : mapO (resV s) rvs = some vs) :
    ∃ xs : List Value, (results fn a.tmps).run P k.w = .ok (match xs with | [x] => x | xs => .tuple xs.toArray) k.w ∧ xs.length = vs.length ∧ ∀ (i : Nat) (v : V) (x : Value), vs[i]? = some v → xs[i]? = some x → VR k v x := by
  obtain ⟨xs, hx, hl, hall⟩ := results_run hr _ _ _ h1 h2
  refine ⟨xs, ?_, hl, hall⟩
  have e : fn.results = fn.results.toList.toArray := by simp
  show Sem.run P (do let vs ← fn.results.mapM (resS a.tmps); pure (if h : vs.size = 1 then vs[0] else .tuple vs)) k.w = _
  simp only [Sem.run_bind]
  rw [e, List.mapM_toArray, ← bind_pure_comp]
  simp only [Sem.run_bind]
  rw [hx]
  simp only [Result.andThen_ok, Sem.run_pure]
  match xs with
  | [] => rfl
  | [x] => rfl
  | x :: y :: r => rfl
theorem pack_vr {k : Ctx} : ∀ {vs : List V} {xs : List Value}, xs.length = vs.length → (∀ (i : Nat) (v : V) (x : Value), vs[i]? = some v → xs[i]? = some x → VR k v x) →
    VR k (packV vs) (match xs with | [x] => x | xs => .tuple xs.toArray)
  | [], [], _, _ => .tuple rfl (fun i v x h => by simp at h)
  | [v], [x], _, h => h 0 v x rfl rfl
  | v :: w :: vs, x :: y :: xs, hl, h => .tuple (by simpa using hl) (fun i v x hi hx => h i v x hi (by simpa using hx))
  | [], _ :: _, hl, _ => by simp at hl
  | [_], [], hl, _ => by simp at hl
  | [_], _ :: _ :: _, hl, _ => by simp at hl
  | _ :: _ :: _, [], hl, _ => by simp at hl
  | _ :: _ :: _, [_], hl, _ => by simp at hl

/-! ### a call -/
/-- what the evaluator's table says of a function, holds of the program -/
def FnOK (P : Program) (G : Nat → Option (List V)) (f : Nat) : LDef → Prop
  | .code lf => ∃ fn fz esc gh, P.funcs[f]? = some fn ∧ funcOf P G fz esc gh fn = some lf ∧ (fn.name == "runtime.NumGoroutine") = false
  | .prim g => ∀ (k : Ctx) (vs : List V) (args : Array Value) (v : V) (h' : HS), OK k → GR G k → k.lo = [] → Args k vs args → g vs k.h = some (v, h') → Gave P k h' (.ret v) ((callFunc f args).run P k.w)
def Tables (P : Program) (G : Nat → Option (List V)) (cf : Cfg) : Prop := ∀ f d, cf.fn f = some d → FnOK P G f d

def Ctx.enter (k : Ctx) (nt : Nat) : Ctx := { k with lo := List.replicate nt (0, []) }
theorem ob_enter {k : Ctx} {nt : Nat} (hl : k.lo = []) (q : Key) : (k.enter nt).ob q = k.ob q := by
  cases q with
  | o i => rfl
  | l t =>
    simp only [Ctx.ob, Ctx.enter, hl, List.getElem?_nil]
    rw [List.getElem?_replicate]
    split
    · rename_i h; split at h <;> simp at h; obtain ⟨rfl, rfl⟩ := h; rfl
    · rfl
theorem I_enter {k : Ctx} {nt : Nat} (hl : k.lo = []) (v : V) (x : Value) (h : k.I v x) : (k.enter nt).I v x := by
  cases v <;> try exact h
  obtain ⟨_, g', cs, h1, _⟩ := h
  rw [hl] at h1; simp at h1
theorem step_enter {k : Ctx} {nt : Nat} (hk : OK k) (hl : k.lo = []) : Step k (k.enter nt) where
  ext := ⟨rfl, rfl, rfl, Nat.le_refl _, fun _ _ _ h => h, I_enter hl, fun _ _ _ => ⟨rfl, fun _ h => h⟩, fun b _ ⟨q, o, hq, he⟩ => ⟨q, o, by rw [ob_enter hl] at hq; exact hq, he⟩⟩
  ok := ⟨hk.lt, hk.low, fun q o hq => hk.place q o (by rw [ob_enter hl] at hq; exact hq), fun q o hq => objAt_keep (k := k) (k' := k.enter nt) (fun _ _ _ h => h) (I_enter hl) (hk.at_ q o (by rw [ob_enter hl] at hq; exact hq)) rfl rfl (fun _ _ => rfl) (fun _ => Iff.rfl),
    fun q r o p hq hr he => hk.inj q r o p (by rw [ob_enter hl] at hq; exact hq) (by rw [ob_enter hl] at hr; exact hr) he⟩

theorem fill_get : ∀ (args : List V) (t : Tr) (i j : Nat), i + args.length ≤ 4095 → (Tr.fill t i args).get j = if i ≤ j ∧ j < i + args.length then args.getD (j - i) .undef else t.get j
  | [], t, i, j, h => by
    have : ¬ (i ≤ j ∧ j < i + ([] : List V).length) := by simp only [List.length_nil]; omega
    rw [if_neg this]; rfl
  | v :: r, t, i, j, h => by
    simp only [List.length_cons] at h
    simp only [Tr.fill]
    rw [fill_get r _ (i + 1) j (by omega)]
    by_cases h1 : i + 1 ≤ j ∧ j < i + 1 + r.length
    · rw [if_pos h1, if_pos (by simp only [List.length_cons]; omega)]
      have : j - i = (j - (i + 1)) + 1 := by omega
      rw [this]; rfl
    · rw [if_neg h1]
      by_cases h2 : i = j
      · subst h2
        rw [if_pos (by simp), Nat.sub_self]
        exact Tr.get_set_same 12 _ _ _ (by omega)
      · rw [if_neg (by simp only [List.length_cons]; omega)]
        exact Tr.get_set_other 12 _ _ _ _ h2
theorem e_get (j : Nat) : Tr.e.get j = .undef := rfl
theorem fr_enter {k : Ctx} {nt : Nat} {vs : List V} {args : Array Value} (hn : vs.length + (nt - vs.length) ≤ 4095) (h : Args k vs args) : FR k (Fr.of nt vs) (args ++ Array.replicate (nt - args.size) undef) := by
  obtain ⟨h1, h2⟩ := h
  refine ⟨⟨by simp [Fr.of, h1], hn⟩, fun t x hx => ?_⟩
  have hsz := (Array.getElem?_eq_some_iff.1 hx).1
  simp only [Array.size_append, Array.size_replicate, h1] at hsz
  have hb : Nat.blt t (Fr.of nt vs).n = true := by rw [Nat.blt_eq]; exact hsz
  simp only [Fr.get, hb, cond_true]
  show VR k ((Tr.fill .e 0 vs).get t) x
  rw [fill_get vs .e 0 t (by omega)]
  by_cases hlt : t < vs.length
  · rw [if_pos ⟨Nat.zero_le _, by omega⟩, Nat.sub_zero]
    rw [Array.getElem?_append_left (by omega)] at hx
    have hv := List.getElem?_eq_getElem hlt
    have : vs.getD t .undef = vs[t] := by simp [List.getD, hv]
    rw [this]
    exact h2 t _ x hv hx
  · rw [if_neg (by omega), e_get]
    rw [Array.getElem?_append_right (by omega), Array.getElem?_replicate] at hx
    split at hx
    · simp only [Option.some.injEq] at hx; subst hx; exact undef_rel
    · cases hx

theorem call_sound (ht : Tables P G cf) : ∀ n, CallSound P G (evalCall cf n) := by
  intro n
  induction n with
  | zero => intro k f vs args r h' _ _ _ _ he; cases he
  | succ n ih =>
    intro k f vs args r h' hk hG hl ha he
    simp only [evalCall] at he
    split at he
    · rename_i lf hf
      obtain ⟨fn, fz, esc, gh, hfn, hof, hname⟩ := ht f _ hf
      unfold funcOf at hof
      split at hof
      · rename_i b hb
        split at hof
        · rename_i lb rvs hlb hrvs
          simp only [Option.some.injEq] at hof
          subst hof
          have hcall : (callFunc f args).run P k.w = .ok (.enter f args) k.w := by
            have hne : ¬ fn.name = "runtime.NumGoroutine" := by simpa using hname
            simp [callFunc, hfn, hne, hb]
          rw [hcall]
          refine .enter (calls_of_wp hfn hb ?_)
          simp only at he
          obtain ⟨hnt, he⟩ := bif_yes he
          have hnt := Nat.le_of_ble_eq_true hnt
          have st0 := step_enter (nt := fn.ntmps) hk hl
          have hrel : Rel (k.enter fn.ntmps) (enterSt fn.ntmps vs k.h) { tmps := args ++ Array.replicate (fn.ntmps - args.size) undef, defers := [] } :=
            ⟨⟨st0.ok, rfl, rfl⟩, (fr_enter (nt := fn.ntmps) hnt ha).ext st0.ext, rfl⟩
          cases hev : evalCode cf (evalCall cf n) n lb (enterSt fn.ntmps vs k.h) with
          | none => rw [hev] at he; cases he
          | some p =>
            obtain ⟨e, s⟩ := p
            rw [hev] at he
            refine code_wp ih n b lb (k.enter fn.ntmps) _ s _ e _ hlb (hG.ext st0.ext) hrel hev ?_
            intro k' a' st hr
            have fin : (match mapO (resV s) rvs with | some vs => handBack (cf.imp f) s.hs vs | none => none) = some (r, h') → ∃ v, (results fn a'.tmps).run P k'.w = .ok v k'.w ∧ CameR k r h' (.returned v) k'.w := by
              intro he
              split at he
              · rename_i vs' hvs
                obtain ⟨xs, hx, hlen, hall⟩ := results_pack hr hrvs hvs
                refine ⟨_, hx, ?_⟩
                unfold handBack at he
                split at he
                · simp only [Option.some.injEq, Prod.mk.injEq] at he
                  obtain ⟨rfl, rfl⟩ := he
                  exact ⟨k', st0.trans st, hr.at_.h, rfl, _, rfl, pack_vr hlen hall⟩
                · simp only [Option.some.injEq, Prod.mk.injEq] at he
                  obtain ⟨rfl, rfl⟩ := he
                  exact ⟨k', st0.trans st, hr.at_.h, rfl, _, rfl, pack_vr hlen hall⟩
                · split at he
                  · rename_i vs2 h2 e2
                    simp only [Option.some.injEq, Prod.mk.injEq] at he
                    obtain ⟨rfl, rfl⟩ := he
                    rw [← hr.at_.h] at e2
                    obtain ⟨k2, st2, l2, g2, w2, n2, p2⟩ := still_vals hr.at_.ok e2 hlen hall
                    refine ⟨k2, (st0.trans st).trans st2, g2, w2, _, rfl, pack_vr (by rw [hlen, n2]) (fun i v x hi hx => .pure (p2 i v x hi hx))⟩
                  · cases he
              · cases he
            cases e with
            | normal => exact ⟨hr.defers, fin he⟩
            | ret => exact ⟨hr.defers, fin he⟩
            | exit id => cases he
            | panic v =>
              simp only [Option.some.injEq, Prod.mk.injEq] at he
              obtain ⟨rfl, rfl⟩ := he
              exact fun x hx => ⟨hr.defers, k', st0.trans st, hr.at_.h, rfl, x, rfl, hx⟩
        · cases hof
      · cases hof
    · rename_i g hf
      split at he
      · rename_i v h2 hv
        simp only [Option.some.injEq, Prod.mk.injEq] at he
        obtain ⟨rfl, rfl⟩ := he
        exact ht f _ hf k vs args v h2 hk hG hl ha hv
      · cases he
    · cases he
end
end Go.Proofs.YthpggdlhoegndaaDoor.LM
