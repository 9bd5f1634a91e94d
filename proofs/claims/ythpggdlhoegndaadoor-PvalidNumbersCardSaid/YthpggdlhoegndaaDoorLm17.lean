/-
  CALLS: what the evaluator's call leaves is what the machine's call leaves.
-/
import Derived.Test.YthpggdlhoegndaaDoorLm16
set_option linter.all false
namespace Go.Proofs.YthpggdlhoegndaaDoor.LM
open Go

section
variable {P : Program} {G : Nat → Option (List V)} {k : Ctx} {cf : Cfg} {ev : Ev}

def CameR (k0 : Ctx) (r : Res) (h' : HS) (e : Ending) (w' : World) : Prop :=
  ∃ k', Step k0 k' ∧ k'.h = h' ∧ k'.w = w' ∧ match r with
    | .ret v => ∃ x, e = .returned x ∧ VR k' v x
    | .panic v => ∃ x, e = .panicked [{ v := x, recovered := false }] ∧ VR k' v x
inductive Gave (P : Program) (k0 : Ctx) (h' : HS) : Res → Result Next → Prop
  | enter {r : Res} {f : FuncId} {args : Array Value} (h : Calls P f args k0.w (CameR k0 r h')) : Gave P k0 h' r (.ok (.enter f args) k0.w)
  | value {v : V} {x : Value} {k' : Ctx} (st : Step k0 k') (hh : k'.h = h') (hv : VR k' v x) : Gave P k0 h' (.ret v) (.ok (.value x) k'.w)
def Args (k : Ctx) (vs : List V) (args : Array Value) : Prop := args.size = vs.length ∧ ∀ (i : Nat) (v : V) (x : Value), vs[i]? = some v → args[i]? = some x → VR k v x
def CallSound (P : Program) (G : Nat → Option (List V)) (ev : Ev) : Prop :=
  ∀ (k : Ctx) (f : Nat) (vs : List V) (args : Array Value) (r : Res) (h' : HS), OK k → GR G k → k.lo = [] → Args k vs args → ev f vs k.h = some (r, h') → Gave P k h' r ((callFunc f args).run P k.w)

def BackAt (k k0 : Ctx) (s' : St) (h' : HS) (r : Res) : Prop :=
  ∀ k', Step k0 k' → k'.h = h' → ∃ k'', Post s' k k'' ∧ k''.w = k'.w ∧ ∀ v x, (r = .ret v ∨ r = .panic v) → VR k' v x → VR k'' v x
theorem gave_did {k0 : Ctx} {s' : St} {r : Res} {h' : HS} {res : Result Next} (hw : k0.w = k.w) (hb : BackAt k k0 s' h' r) (g : Gave P k0 h' r res) : Did P k s' (outOf r) res := by
  cases g with
  | enter h =>
    rw [hw]
    refine .enter ?_
    rw [hw] at h
    refine h.mono ?_
    rintro e w' ⟨k', st, hh, hw', hm⟩
    obtain ⟨k'', hp, hw2, hv⟩ := hb k' st hh
    refine ⟨k'', hp, hw2.trans hw', ?_⟩
    cases r with
    | ret v => obtain ⟨x, e1, e2⟩ := hm; exact ⟨x, e1, hv v x (.inl rfl) e2⟩
    | panic v => obtain ⟨x, e1, e2⟩ := hm; exact ⟨x, e1, hv v x (.inr rfl) e2⟩
  | value st hh hv =>
    obtain ⟨k'', hp, hw2, hv2⟩ := hb _ st hh
    rw [← hw2]
    exact .val hp (hv2 _ _ (.inl rfl) hv)

theorem left_res {k' : Ctx} {g : HS} {ins : Nat → Bool} {h : HS} {p : Nat → Bool} (b : Ins k k' g ins h p) {r : Res} {v : V} {x : Value} (hr : resIn p r = true) (hv : r = .ret v ∨ r = .panic v) (hx : VR k' v x) : VR (k.back k' ins h) v x :=
  vr_res (k := k') (k' := k.back k' ins h) (p := p) (fun _ _ _ h => h) (I_left b) hr hv hx
theorem args_sub {g : HS} {vs : List V} {args : Array Value} (hsub : ∀ i o, g.get i = some o → k.h.get i = some o) (hc : g.c = k.h.c) (ha : Args k vs args) (hv : vs.all (V.inV yes) = true) : Args (k.sub g) vs args :=
  ⟨ha.1, fun i v x hi hx => vr_inV (k := k) (k' := k.sub g) (p := yes) (fun _ _ _ h => h) (I_sub hsub hc) (ha.2 i v x hi hx) (List.all_eq_true.1 hv v (List.mem_of_getElem? hi))⟩

theorem some_did {f : Nat} {vs : List V} {args : Array Value} {s s' : St} {out : Out} (hev : CallSound P G ev) (hk : OK k) (hG : GR G k) (hl : k.lo = s.lo) (hh : k.h = s.hs) (ha : Args k vs args)
    (he : exec1 (.obs vs (callSome ev f vs)) s = some (out, s')) : Did P k s' out ((callFunc f args).run P k.w) := by
  simp only [exec1] at he
  rw [← hh] at he
  generalize hL : idsOf k.h vs = l at he
  split at he
  · rename_i o h' e1
    simp only [Option.some.injEq, Prod.mk.injEq] at he
    obtain ⟨rfl, rfl⟩ := he
    unfold callSome at e1
    obtain ⟨c1, e1⟩ := bif_yes e1
    rw [Bool.and_eq_true] at c1
    split at e1
    · rename_i r h2 e2
      obtain ⟨c2, e1⟩ := bif_yes e1
      simp only [Option.some.injEq, Prod.mk.injEq] at e1
      obtain ⟨rfl, rfl⟩ := e1
      rw [Bool.and_eq_true, Bool.and_eq_true] at c2
      obtain ⟨⟨c2, c3⟩, c4⟩ := c2
      have hsub : ∀ i o, (k.h.only l).get i = some o → k.h.get i = some o := fun i o hi => by
        rw [get_only] at hi; split at hi
        · exact hi
        · cases hi
      have hmem : ∀ i o, (k.h.only l).get i = some o → memN i l = true := fun i o hi => by
        rw [get_only] at hi; split at hi
        · assumption
        · cases hi
      have hgave := hev (k.sub (k.h.only l)) f vs args r h2 (ok_sub hk hsub (fun _ _ _ => rfl) (fun i o hi => allIn_get c1.2 hi)) hG rfl (args_sub hsub rfl ha c1.1) e2
      refine gave_did (k := k) (k0 := k.sub (k.h.only l)) rfl ?_ hgave
      intro k' st hk'
      have hlook : ∀ i o, HS.get ⟨k.h.c, merge l h2 k.h.os⟩ i = some o → ∃ o1, k.h.get i = some o1 ∧ (memN i l = true → h2.get i = some o) := by
        intro i o hi
        have hi' : lookup i (merge l h2 k.h.os) = some o := hi
        rw [lookup_merge] at hi'
        split at hi'
        · rename_i o1 ho1
          refine ⟨o1, ho1, fun hm => ?_⟩
          have hg : (k.h.only l).get i = some o1 := by rw [get_only, if_pos hm]; exact ho1
          have hhas : h2.has i = true := List.all_eq_true.1 c4 (i, o1) (lookup_mem hg)
          rw [hm] at hi'
          cases h3 : h2.get i with
          | none => simp [HS.has, h3] at hhas
          | some o2 => rw [h3] at hi'; simpa using hi'
        · cases hi'
      have b : Ins k k' (k.h.only l) (fun i => memN i l) ⟨k.h.c, merge l h2 k.h.os⟩ (k.h.only l).has :=
        { hk := hk, st := st, sub := hsub
          inn := fun i o hi hm => by
            obtain ⟨o1, h1, h3⟩ := hlook i o hi
            rw [hk']; exact h3 hm
          out := fun i hm => by
            show lookup i (merge l h2 k.h.os) = lookup i k.h.os
            rw [lookup_merge]
            split
            · rename_i o ho; rw [ho, hm]; rfl
            · rename_i ho; rw [ho]
          gin := hmem
          gc := fun _ _ => rfl
          oc := fun i _ h => h
          ic := fun i _ h _ => h
          pin := fun i hi => by
            cases h3 : (k.h.only l).get i with
            | none => simp [HS.has, h3] at hi
            | some o => exact ⟨hmem i o h3, fun _ => hk.low i o (hsub i o h3)⟩
          low := fun i o hi => by
            obtain ⟨o1, h1, h3⟩ := hlook i o hi
            exact hk.low i o1 h1
          ob := fun i o hi hm => by
            obtain ⟨o1, h1, h3⟩ := hlook i o hi
            have := List.all_eq_true.1 c3 (i, o) (lookup_mem (h3 hm))
            simp only [Bool.or_eq_true, Bool.not_eq_true'] at this
            refine this.resolve_left (fun hn => ?_)
            simp [HS.has, get_only, hm, h1] at hn }
      have st' := back_step b
      exact ⟨_, ⟨st'.ext, st'.ok, hl, rfl⟩, rfl, fun v x hv hvr => left_res b c2 hv hvr⟩
    · cases e1
  · cases he

theorem all_did {f : Nat} {vs : List V} {args : Array Value} {s s' : St} {out : Out} (hev : CallSound P G ev) (hk : OK k) (hG : GR G k) (hl : k.lo = s.lo) (hh : k.h = s.hs) (ha : Args k vs args)
    (he : exec1 (.hpW (callAll ev f vs)) s = some (out, s')) : Did P k s' out ((callFunc f args).run P k.w) := by
  simp only [exec1] at he
  rw [← hh] at he
  split at he
  · rename_i o h' e1
    simp only [Option.some.injEq, Prod.mk.injEq] at he
    obtain ⟨rfl, rfl⟩ := he
    unfold callAll at e1
    obtain ⟨c1, e1⟩ := bif_yes e1
    rw [Bool.and_eq_true] at c1
    split at e1
    · rename_i r h2 e2
      obtain ⟨c2, e1⟩ := bif_yes e1
      simp only [Option.some.injEq, Prod.mk.injEq] at e1
      obtain ⟨rfl, rfl⟩ := e1
      rw [Bool.and_eq_true] at c2
      have hsub : ∀ i o, k.h.get i = some o → k.h.get i = some o := fun _ _ h => h
      have hgave := hev (k.sub k.h) f vs args r h2 (ok_sub hk hsub (fun _ _ _ => rfl) (fun i o hi => allIn_get c1.2 hi)) hG rfl (args_sub hsub rfl ha c1.1) e2
      refine gave_did (k := k) (k0 := k.sub k.h) rfl ?_ hgave
      intro k' st hk'
      by_cases ht : (resIn (fun i => Nat.blt i k.h.c) r && (h2.cut k.h.c).allIn (fun i => Nat.blt i k.h.c)) = true
      · have htidy : tidy k.h.c r h2 = h2.cut k.h.c := by unfold tidy; rw [ht]; rfl
        rw [htidy]
        rw [Bool.and_eq_true] at ht
        have hget : ∀ i o, (h2.cut k.h.c).get i = some o → h2.get i = some o ∧ i < k.h.c := fun i o hi => by
          rw [get_cut] at hi
          split at hi
          · rename_i hb; exact ⟨hi, by simpa [Nat.blt_eq] using hb⟩
          · cases hi
        have b : Ins k k' k.h (fun _ => true) (h2.cut k.h.c) (fun i => Nat.blt i k.h.c) :=
          { hk := hk, st := st, sub := hsub
            inn := fun i o hi _ => by rw [hk']; exact (hget i o hi).1
            out := fun i h => by cases h
            gin := fun _ _ _ => rfl
            gc := fun _ _ => rfl
            oc := fun i h => by cases h
            ic := fun i _ h _ => h
            pin := fun i hi => ⟨rfl, fun _ => by show i < k.h.c; simpa [Nat.blt_eq] using hi⟩
            low := fun i o hi => (hget i o hi).2
            ob := fun i o hi _ => allIn_get ht.2 hi }
        have st' := back_step b
        exact ⟨_, ⟨st'.ext, st'.ok, hl, rfl⟩, rfl, fun v x hv hvr => left_res b ht.1 hv hvr⟩
      · have htidy : tidy k.h.c r h2 = h2 := by unfold tidy; simp only [Bool.not_eq_true] at ht; rw [ht]; rfl
        rw [htidy]
        have b : Ins k k' k.h (fun _ => true) h2 yes :=
          { hk := hk, st := st, sub := hsub
            inn := fun i o hi _ => by rw [hk']; exact hi
            out := fun i h => by cases h
            gin := fun _ _ _ => rfl
            gc := fun _ _ => rfl
            oc := fun i h => by cases h
            ic := fun i _ _ h => by rw [hk'] at h; exact h
            pin := fun i hi => ⟨rfl, fun h => by rw [hk'] at h; exact h⟩
            low := fun i o hi => by have := st.ok.low i o (by rw [hk']; exact hi); rw [hk'] at this; exact this
            ob := fun i o hi _ => allIn_get c2.2 hi }
        have st' := back_step b
        exact ⟨_, ⟨st'.ext, st'.ok, hl, rfl⟩, rfl, fun v x hv hvr => left_res b c2.1 hv hvr⟩
    · cases e1
  · cases he

/-- a call of values alone -/
theorem retPure_some {r : Res} {o : Out} (h : retPure r = some o) : o = outOf r ∧ ∀ (k : Ctx) (v : V) (x : Value), (r = .ret v ∨ r = .panic v) → VR k v x → PR k.C v x := by
  cases r with
  | ret v =>
    by_cases ht : ∃ vs, v = .tuple vs
    · obtain ⟨vs, rfl⟩ := ht
      simp only [retPure] at h
      obtain ⟨h1, h2⟩ := bif_yes h
      simp only [Option.some.injEq] at h2
      refine ⟨h2.symm, fun k v x hv hx => ?_⟩
      rcases hv with hv | hv
      · injection hv with hv; subst hv
        obtain ⟨arr, rfl, hl, hc⟩ := tuple_inv hx
        exact .tuple hl (fun i v x hi hx => pr_pure (hc i v x hi hx) (List.all_eq_true.1 h1 v (List.mem_of_getElem? hi)))
      · cases hv
    · have h' : (bif v.pure then some (Out.val v) else Option.none) = some o := by
        cases v <;> first
          | exact h
          | exact absurd ⟨_, rfl⟩ ht
      obtain ⟨h1, h2⟩ := bif_yes h'
      simp only [Option.some.injEq] at h2
      refine ⟨h2.symm, fun k u x hv hx => ?_⟩
      rcases hv with hv | hv
      · injection hv with hv; subst hv; exact pr_pure hx h1
      · cases hv
  | panic v =>
    simp only [retPure] at h
    obtain ⟨h1, h2⟩ := bif_yes h
    simp only [Option.some.injEq] at h2
    refine ⟨h2.symm, fun k u x hv hx => ?_⟩
    rcases hv with hv | hv
    · cases hv
    · injection hv with hv; subst hv; exact pr_if hx h1
theorem pure_did {k1 : Ctx} {f : Nat} {vs : List V} {args : Array Value} {s' : St} {out : Out} (hev : CallSound P G ev) (st1 : Step k k1) (hw : k1.w = k.w) (hG : GR G k1) (hl : k1.lo = s'.lo) (hh : k1.h = s'.hs) (hsz : args.size = vs.length)
    (ha : ∀ (i : Nat) (v : V) (x : Value), vs[i]? = some v → args[i]? = some x → PR k1.C v x) (he : callPure ev f vs = some out) : Did P k s' out ((callFunc f args).run P k.w) := by
  unfold callPure at he
  split at he
  · rename_i r h2 e2
    obtain ⟨rfl, hpr⟩ := retPure_some he
    have hgave := hev (k1.sub HS.none) f vs args r h2 (ok_sub st1.ok (fun _ _ h => by cases h) (fun _ _ h => by cases h) (fun _ _ h => by cases h)) hG rfl ⟨hsz, fun i v x hi hx => .pure (ha i v x hi hx)⟩ e2
    have hgave' : Gave P (k1.sub HS.none) h2 r ((callFunc f args).run P k.w) := by rw [← hw]; exact hgave
    refine gave_did (k := k) (k0 := k1.sub HS.none) hw ?_ hgave'
    intro k' st hk'
    have b : Ins k1 k' HS.none (fun _ => false) k1.h (fun _ => false) :=
      { hk := st1.ok, st := st, sub := fun _ _ h => by cases h
        inn := fun i o _ h => by cases h
        out := fun i _ => rfl
        gin := fun _ _ h => by cases h
        gc := fun _ h => by cases h
        oc := fun i _ h => h
        ic := fun i h => by cases h
        pin := fun i h => by cases h
        low := st1.ok.low
        ob := fun i o _ h => by cases h }
    have st' := back_step b
    exact ⟨_, ⟨st1.ext.trans st'.ext, st'.ok, hl, hh⟩, rfl, fun v x hv hvr => .pure (hpr k' v x hv hvr)⟩
  · cases he

theorem callV_did {f : Nat} {vs : List V} {args : Array Value} {s s' : St} {out : Out} (hev : CallSound P G ev) (hk : OK k) (hG : GR G k) (hl : k.lo = s.lo) (hh : k.h = s.hs) (ha : Args k vs args)
    (he : exec1 (callV cf ev f vs) s = some (out, s')) : Did P k s' out ((callFunc f args).run P k.w) := by
  unfold callV at he
  split at he
  · exact some_did hev hk hG hl hh ha he
  · exact all_did hev hk hG hl hh ha he
  · cases hr : vs.any V.hasRow with
    | true =>
      rw [hr] at he
      simp only [cond_true, exec1] at he
      rw [← hh] at he
      split at he
      · rename_i o h1 e1
        simp only [Option.some.injEq, Prod.mk.injEq] at he
        obtain ⟨rfl, rfl⟩ := he
        split at e1
        · rename_i vs' h2 e2
          split at e1
          · rename_i o2 e3
            simp only [Option.some.injEq, Prod.mk.injEq] at e1
            obtain ⟨rfl, rfl⟩ := e1
            obtain ⟨k1, st1, l1, rfl, w1, n1, p1⟩ := still_vals (xs := args.toList) hk e2 (by rw [Array.length_toList]; exact ha.1) (fun i v x hi hx => ha.2 i v x hi (by simpa using hx))
            exact pure_did hev st1 w1 (hG.ext st1.ext) (l1.trans hl) rfl (by rw [ha.1, n1]) (fun i v x hi hx => p1 i v x hi (by simpa using hx)) e3
          · cases e1
        · cases e1
      · cases he
    | false =>
      rw [hr] at he
      simp only [cond_false, exec1] at he
      split at he
      · rename_i o e1
        simp only [Option.some.injEq, Prod.mk.injEq] at he
        obtain ⟨rfl, rfl⟩ := he
        split at e1
        · rename_i vs' e2
          obtain ⟨n1, p1⟩ := mapO_some e2
          refine pure_did hev (.refl hk) rfl hG hl hh (by rw [ha.1, n1]) (fun i v x hi hx => ?_) e1
          have hlt : i < vs.length := by
            have := (List.getElem?_eq_some_iff.1 hi).1
            omega
          obtain ⟨u, hu, hi2⟩ := p1 i _ (List.getElem?_eq_getElem hlt)
          rw [hi] at hi2; simp only [Option.some.injEq] at hi2; subst hi2
          exact calm_val hu (ha.2 i _ x (List.getElem?_eq_getElem hlt) hx)
        · cases e1
      · cases he
end
end Go.Proofs.YthpggdlhoegndaaDoor.LM
