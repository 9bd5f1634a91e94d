/-
  A CALL'S FRAME: what a call was handed, and what it leaves, in its caller's state.
-/
import Derived.Test.YthpggdlhoegndaaDoorLm15
set_option linter.all false
namespace Go.Proofs.YthpggdlhoegndaaDoor.LM
open Go

/-! ### lookups, on -/
theorem lookup_filter (p : Nat → Bool) (i : Nat) : ∀ l : List (Nat × Ob), lookup i (l.filter fun x => p x.1) = if p i = true then lookup i l else none
  | [] => by simp [lookup]
  | (j, o) :: r => by
    have ih := lookup_filter p i r
    by_cases hj : p j = true
    · rw [List.filter_cons_of_pos (by exact hj)]
      simp only [lookup]
      by_cases e : i = j
      · subst e; simp [hj]
      · have : Nat.beq i j = false := by rw [Bool.eq_false_iff]; intro h; exact e (Nat.eq_of_beq_eq_true h)
        simp only [this, cond_false]; exact ih
    · rw [List.filter_cons_of_neg (by exact hj)]
      rw [ih]
      simp only [lookup]
      by_cases e : i = j
      · subst e; simp [hj]
      · have : Nat.beq i j = false := by rw [Bool.eq_false_iff]; intro h; exact e (Nat.eq_of_beq_eq_true h)
        simp only [this, cond_false]
theorem get_cut (h : HS) (c i : Nat) : (h.cut c).get i = if Nat.blt i c = true then h.get i else none := lookup_filter (fun i => Nat.blt i c) i h.os
theorem get_only (h : HS) (l : List Nat) (i : Nat) : (h.only l).get i = if memN i l = true then h.get i else none := lookup_filter (fun i => memN i l) i h.os
theorem lookup_merge (l : List Nat) (g : HS) (i : Nat) : ∀ os : List (Nat × Ob), lookup i (merge l g os) = match lookup i os with
    | some o => some (bif memN i l then (match g.get i with | some p => p | none => o) else o)
    | none => none
  | [] => rfl
  | (j, o) :: r => by
    have ih := lookup_merge l g i r
    simp only [merge, lookup]
    by_cases e : i = j
    · subst e; simp only [Nat.beq_refl, cond_true]; cases memN i l <;> cases g.get i <;> rfl
    · have : Nat.beq i j = false := by rw [Bool.eq_false_iff]; intro h; exact e (Nat.eq_of_beq_eq_true h)
      simp only [this, cond_false]; exact ih
theorem lookup_mem {i : Nat} {o : Ob} : ∀ {l : List (Nat × Ob)}, lookup i l = some o → (i, o) ∈ l
  | [], h => by cases h
  | (j, p) :: r, h => by
    simp only [lookup] at h
    by_cases e : i = j
    · subst e; simp at h; subst h; exact List.mem_cons_self
    · have : Nat.beq i j = false := by rw [Bool.eq_false_iff]; intro h; exact e (Nat.eq_of_beq_eq_true h)
      simp only [this, cond_false] at h; exact List.mem_cons_of_mem _ (lookup_mem h)
theorem get_none (i : Nat) : HS.none.get i = none := rfl
theorem allIn_get {h : HS} {p : Nat → Bool} (ha : h.allIn p = true) {i : Nat} {o : Ob} (hi : h.get i = some o) : obIn p o = true :=
  List.all_eq_true.1 ha (i, o) (lookup_mem hi)

section
variable {P : Program} {G : Nat → Option (List V)}

/-! ### values whose numbers are among some -/
def V.atomIn (p : Nat → Bool) : V → Bool
  | .ref i _ | .rptr i _ _ _ | .row i _ | .map i => p i
  | _ => false
theorem vr_atom {k : Ctx} {v : V} {x : Value} {p : Nat → Bool} (h : VR k v x) (ha : v.atomIn p = true) : k.I v x := by
  cases v <;> first
    | (cases ha; done)
    | (cases h with
      | pure h => cases h
      | atom h => exact h)
theorem vr_inCell {k k' : Ctx} {p : Nat → Bool} (hC : ∀ b o x, k.C b o x → k'.C b o x) (hI : ∀ v x, V.atomIn p v = true → k.I v x → k'.I v x) {v : V} {x : Value}
    (h : VR k v x) (hv : v.inCell p = true) : VR k' v x := by
  have atom : ∀ {v : V} {x : Value}, VR k v x → v.atomIn p = true → VR k' v x := fun h ha => .atom (hI _ _ ha (vr_atom h ha))
  cases v <;> first
    | (cases hv; done)
    | exact atom h hv
    | exact .pure ((pr_if h hv).mono hC)
    | skip
  rename_i f caps
  cases h with
  | pure h => exact .pure (h.mono hC)
  | atom h => exact h.elim
  | func hl hp =>
    refine .func hl (fun i v x hi hx => ?_)
    have hv2 := List.all_eq_true.1 (show (caps.all fun v => match v with | .ref i _ => p i | v => v.pureCell) = true from hv) v (List.mem_of_getElem? hi)
    have hvr := hp i v x hi hx
    cases v <;> first
      | exact atom hvr hv2
      | exact .pure ((pr_cell hvr hv2).mono hC)
theorem vr_inV {k k' : Ctx} {p : Nat → Bool} (hC : ∀ b o x, k.C b o x → k'.C b o x) (hI : ∀ v x, V.atomIn p v = true → k.I v x → k'.I v x) {v : V} {x : Value}
    (h : VR k v x) (hv : v.inV p = true) : VR k' v x := by
  cases v <;> first
    | exact vr_inCell hC hI h hv
    | skip
  rename_i cs
  obtain ⟨arr, rfl, hl, hc⟩ := agg_inv h
  exact .agg hl (fun i v x hi hx => vr_inCell hC hI (hc i v x hi hx) (List.all_eq_true.1 (show cs.all (V.inCell p) = true from hv) v (List.mem_of_getElem? hi)))
theorem vr_res {k k' : Ctx} {p : Nat → Bool} (hC : ∀ b o x, k.C b o x → k'.C b o x) (hI : ∀ v x, V.atomIn p v = true → k.I v x → k'.I v x) {r : Res} {v : V} {x : Value}
    (hr : resIn p r = true) (hv : r = .ret v ∨ r = .panic v) (h : VR k v x) : VR k' v x := by
  rcases hv with rfl | rfl
  · cases v <;> first
      | exact vr_inV hC hI h hr
      | skip
    rename_i vs
    obtain ⟨arr, rfl, hl, hc⟩ := tuple_inv h
    exact .tuple hl (fun i v x hi hx => vr_inV hC hI (hc i v x hi hx) (List.all_eq_true.1 (show vs.all (V.inV p) = true from hr) v (List.mem_of_getElem? hi)))
  · exact .pure ((pr_if h hr).mono hC)
theorem obj_in {k k' : Ctx} {p : Nat → Bool} (hC : ∀ b o x, k.C b o x → k'.C b o x) (hI : ∀ v x, V.atomIn p v = true → k.I v x → k'.I v x) {q : Key} {o : Ob} (h : objAt k q o) (ho : obIn p o = true) (hpl : k'.pl q = k.pl q)
    (hh : k'.w.heap[k.pl q]? = k.w.heap[k.pl q]?) (hr : ∀ i, q = .o i → k'.rho i = k.rho i) (hS1 : ∀ o, k'.S (k.pl q) o → k.S (k.pl q) o) (hS2 : ∀ b o, k.S b o → k'.S b o) : objAt k' q o := by
  cases o with
  | cells cs fz =>
    simp only [objAt, hpl] at h ⊢
    obtain ⟨⟨arr, ty, h1, h2, h3⟩, h4⟩ := h
    exact ⟨⟨arr, ty, hh.trans h1, h2, fun j v x hj hx => ⟨vr_inCell hC hI (h3 j v x hj hx).1 (List.all_eq_true.1 (show cs.all (V.inCell p) = true from ho) v (List.mem_of_getElem? hj)), (h3 j v x hj hx).2⟩⟩, fun hf o hs => h4 hf o (hS1 o hs)⟩
  | row xs sz fz =>
    simp only [objAt, hpl] at h ⊢
    obtain ⟨⟨arr, ty, fr, cap, h1, hfr, h2, h3, h4, h5⟩, h6, h7⟩ := h
    refine ⟨⟨arr, ty, fr, cap, hh.trans h1, hfr, fun i hi => (hr i hi).trans (h2 i hi), h3, h4, fun i v j u hi hj => ?_⟩, h6, fun hf o hs => h7 hf o (hS1 o hs)⟩
    obtain ⟨x, a1, a2, a3, a4⟩ := h5 i v j u hi hj
    exact ⟨x, a1, a2.mono hC, a3, fun hf => hS2 _ _ (a4 hf)⟩
  | map es =>
    simp only [objAt, hpl] at h ⊢
    obtain ⟨⟨ents, clock, h1, h2, h3⟩, h4⟩ := h
    exact ⟨⟨ents, clock, hh.trans h1, h2, fun i key v ent hi he => ⟨(h3 i key v ent hi he).1, (h3 i key v ent hi he).2.mono hC⟩⟩, fun o hs => h4 o (hS1 o hs)⟩

/-! ### what a call is handed -/
def Ctx.sub (k : Ctx) (g : HS) : Ctx := { k with lo := [], h := g }
theorem I_sub {k : Ctx} {g : HS} (hsub : ∀ i o, g.get i = some o → k.h.get i = some o) (hc : g.c = k.h.c) (v : V) (x : Value) (ha : v.atomIn yes = true) (h : k.I v x) : (k.sub g).I v x := by
  cases v <;> first
    | (cases ha; done)
    | exact ⟨h.1, hc ▸ h.2.1, fun a b e => h.2.2 a b (hsub _ _ e)⟩
    | exact ⟨h.1, hc ▸ h.2.1, fun a b c e => h.2.2 a b c (hsub _ _ e)⟩
    | exact ⟨h.1, hc ▸ h.2.1, fun a e => h.2.2 a (hsub _ _ e)⟩
theorem ok_sub {k : Ctx} {g : HS} (hk : OK k) (hsub : ∀ i o, g.get i = some o → k.h.get i = some o) (hc : ∀ i o, g.get i = some o → g.c = k.h.c) (ho : ∀ i o, g.get i = some o → obIn yes o = true) : OK (k.sub g) where
  lt := hk.lt
  low := fun i o hi => by
    show i < g.c
    rw [hc i o hi]; exact hk.low i o (hsub i o hi)
  place := fun q o hq => by
    cases q with
    | l t => simp [Ctx.ob, Ctx.sub] at hq
    | o i => exact hk.place (.o i) o (hsub i o hq)
  at_ := fun q o hq => by
    cases q with
    | l t => simp [Ctx.ob, Ctx.sub] at hq
    | o i => exact obj_in (k := k) (k' := k.sub g) (p := yes) (fun _ _ _ h => h) (I_sub hsub (hc i o hq)) (hk.at_ (.o i) o (hsub i o hq)) (ho i o hq) rfl rfl (fun _ _ => rfl) (fun _ h => h) (fun _ _ h => h)
  inj := fun q r o p hq hr he => by
    cases q with
    | l t => simp [Ctx.ob, Ctx.sub] at hq
    | o i => cases r with
      | l t => simp [Ctx.ob, Ctx.sub] at hr
      | o j => exact hk.inj (.o i) (.o j) o p (hsub i o hq) (hsub j p hr) he

/-! ### what it leaves -/
def Ctx.back (k k' : Ctx) (ins : Nat → Bool) (h : HS) : Ctx where
  S := k'.S
  pl := fun q => match q with
    | .l t => k.pl (.l t)
    | .o i => if ins i = true then k'.pl (.o i) else k.pl (.o i)
  rho := fun i => if ins i = true then k'.rho i else k.rho i
  lo := k.lo
  h := h
  w := k'.w
structure Ins (k k' : Ctx) (g : HS) (ins : Nat → Bool) (h : HS) (p : Nat → Bool) : Prop where
  hk : OK k
  st : Step (k.sub g) k'
  sub : ∀ i o, g.get i = some o → k.h.get i = some o
  inn : ∀ i o, h.get i = some o → ins i = true → k'.h.get i = some o
  out : ∀ i, ins i = false → h.get i = k.h.get i
  gin : ∀ i o, g.get i = some o → ins i = true
  gc : ∀ i, ins i = true → g.c = k.h.c
  oc : ∀ i, ins i = false → i < k.h.c → i < h.c
  ic : ∀ i, ins i = true → i < k.h.c → i < k'.h.c → i < h.c
  pin : ∀ i, p i = true → ins i = true ∧ (i < k'.h.c → i < h.c)
  low : ∀ i o, h.get i = some o → i < h.c
  ob : ∀ i o, h.get i = some o → ins i = true → obIn p o = true
theorem I_of_ins {k k' : Ctx} {ins : Nat → Bool} {h : HS} (hin : ∀ i o, h.get i = some o → ins i = true → k'.h.get i = some o) (v : V) (x : Value) (hv : k'.I v x)
    (ha : v.atomIn (fun i => ins i && (!decide (i < k'.h.c) || decide (i < h.c))) = true) : (k.back k' ins h).I v x := by
  cases v <;> first
    | (cases ha; done)
    | skip
  all_goals
    simp only [V.atomIn, Bool.and_eq_true, Bool.or_eq_true, Bool.not_eq_true', decide_eq_false_iff_not, decide_eq_true_eq] at ha
    have hlt : _ < h.c := ha.2.resolve_left (fun hn => hn hv.2.1)
  · rename_i i off
    refine ⟨hv.1, hlt, fun cs fz hg => ?_⟩
    have := hv.2.2 cs fz (hin i _ hg ha.1)
    simp only [Ctx.back, if_pos ha.1]; exact this
  · rename_i i e idx off
    refine ⟨hv.1, hlt, fun xs sz fz hg => ?_⟩
    have := hv.2.2 xs sz fz (hin i _ hg ha.1)
    simp only [Ctx.back, if_pos ha.1]; exact this
  · rename_i i e
    refine ⟨hv.1, hlt, fun xs sz fz hg => ?_⟩
    have := hv.2.2 xs sz fz (hin i _ hg ha.1)
    simp only [Ctx.back, if_pos ha.1]; exact this
  · rename_i i
    refine ⟨hv.1, hlt, fun es hg => ?_⟩
    have := hv.2.2 es (hin i _ hg ha.1)
    simp only [Ctx.back, if_pos ha.1]; exact this
theorem I_back {k k' : Ctx} {g : HS} {ins : Nat → Bool} {h : HS} {p : Nat → Bool} (b : Ins k k' g ins h p) (v : V) (x : Value) (hv : k.I v x) : (k.back k' ins h).I v x := by
  have inside : ∀ i, v.atomIn (fun j => decide (j = i)) = true → ins i = true → i < k.h.c → (k.back k' ins h).I v x := by
    intro i ha hi hlt
    have h0 : (k.sub g).I v x := by
      refine I_sub b.sub (b.gc i hi) v x ?_ hv
      cases v <;> first
        | (cases ha; done)
        | rfl
    have h1 := b.st.ext.I v x h0
    refine I_of_ins b.inn v x h1 ?_
    cases v <;> first
      | (cases ha; done)
      | skip
    all_goals
      simp only [V.atomIn, decide_eq_true_eq] at ha
      subst ha
      have : _ < k'.h.c := h1.2.1
      simp only [V.atomIn, hi, Bool.true_and, Bool.or_eq_true, decide_eq_true_eq]
      exact .inr (b.ic _ hi hlt this)
  cases v <;> try exact hv
  · rename_i i off
    cases hi : ins i with
    | true => exact inside i (by simp [V.atomIn]) hi hv.2.1
    | false =>
      refine ⟨hv.1, b.oc i hi hv.2.1, fun cs fz hg => ?_⟩
      have hg' : h.get i = some (.cells cs fz) := hg
      rw [b.out i hi] at hg'
      simp only [Ctx.back, hi, Bool.false_eq_true, if_false]; exact hv.2.2 cs fz hg'
  · rename_i i e idx off
    cases hi : ins i with
    | true => exact inside i (by simp [V.atomIn]) hi hv.2.1
    | false =>
      refine ⟨hv.1, b.oc i hi hv.2.1, fun xs sz fz hg => ?_⟩
      have hg' : h.get i = some (.row xs sz fz) := hg
      rw [b.out i hi] at hg'
      simp only [Ctx.back, hi, Bool.false_eq_true, if_false]; exact hv.2.2 xs sz fz hg'
  · rename_i i e
    cases hi : ins i with
    | true => exact inside i (by simp [V.atomIn]) hi hv.2.1
    | false =>
      refine ⟨hv.1, b.oc i hi hv.2.1, fun xs sz fz hg => ?_⟩
      have hg' : h.get i = some (.row xs sz fz) := hg
      rw [b.out i hi] at hg'
      simp only [Ctx.back, hi, Bool.false_eq_true, if_false]; exact hv.2.2 xs sz fz hg'
  · rename_i i
    cases hi : ins i with
    | true => exact inside i (by simp [V.atomIn]) hi hv.2.1
    | false =>
      refine ⟨hv.1, b.oc i hi hv.2.1, fun es hg => ?_⟩
      have hg' : h.get i = some (.map es) := hg
      rw [b.out i hi] at hg'
      simp only [Ctx.back, hi, Bool.false_eq_true, if_false]; exact hv.2.2 es hg'
theorem I_left {k k' : Ctx} {g : HS} {ins : Nat → Bool} {h : HS} {p : Nat → Bool} (b : Ins k k' g ins h p) (v : V) (x : Value) (ha : v.atomIn p = true) (hv : k'.I v x) : (k.back k' ins h).I v x := by
  refine I_of_ins b.inn v x hv ?_
  cases v <;> first
    | (cases ha; done)
    | skip
  all_goals
    simp only [V.atomIn, Bool.and_eq_true, Bool.or_eq_true, Bool.not_eq_true', decide_eq_false_iff_not, decide_eq_true_eq] at ha ⊢
    obtain ⟨h1, h2⟩ := b.pin _ ha
    exact ⟨h1, (Classical.em _).symm.imp id h2⟩
theorem ob_back {k k' : Ctx} {g : HS} {ins : Nat → Bool} {h : HS} {p : Nat → Bool} (b : Ins k k' g ins h p) {q : Key} {o : Ob} (hq : (k.back k' ins h).ob q = some o) :
    (∃ i, q = .o i ∧ ins i = true ∧ k'.ob q = some o ∧ h.get i = some o ∧ (k.back k' ins h).pl q = k'.pl q) ∨
    ((∀ i, q = .o i → ins i = false) ∧ k.ob q = some o ∧ (k.back k' ins h).pl q = k.pl q) := by
  cases q with
  | l t => exact .inr ⟨(fun i e => by cases e), hq, rfl⟩
  | o i =>
    have hq' : h.get i = some o := hq
    cases hi : ins i with
    | true => exact .inl ⟨i, rfl, hi, b.inn i o hq' hi, hq', by simp [Ctx.back, hi]⟩
    | false =>
      rw [b.out i hi] at hq'
      exact .inr ⟨fun j e => by injection e with e; subst e; exact hi, hq', by simp [Ctx.back, hi]⟩
/-- a block that the call was not handed is no block of its own -/
theorem not_own {k k' : Ctx} {g : HS} {ins : Nat → Bool} {h : HS} {p : Nat → Bool} (b : Ins k k' g ins h p) {q : Key} {o : Ob} (hq : k.ob q = some o) (hn : ∀ i, q = .o i → ins i = false) : ¬ (k.sub g).own (k.pl q) := by
  rintro ⟨r, o', hr, he⟩
  cases r with
  | l t => simp [Ctx.ob, Ctx.sub] at hr
  | o j =>
    have hj : g.get j = some o' := hr
    have := b.hk.inj (.o j) q o' o (b.sub j o' hj) hq he
    have h2 := hn j this.symm
    rw [b.gin j o' hj] at h2; cases h2
theorem back_step {k k' : Ctx} {g : HS} {ins : Nat → Bool} {h : HS} {p : Nat → Bool} (b : Ins k k' g ins h p) : Step k (k.back k' ins h) := by
  have hsz : k.w.heap.size ≤ k'.w.heap.size := b.st.ext.size
  have hC : ∀ c o x, k.C c o x → (k.back k' ins h).C c o x := b.st.ext.C
  refine ⟨⟨b.st.ext.os, b.st.ext.tape, b.st.ext.output, hsz, hC, I_back b, fun c hc hn => ?_, fun c hc ho => ?_⟩, ?_⟩
  · refine b.st.ext.frame c hc (fun ⟨q, o, hq, he⟩ => hn ?_)
    cases q with
    | l t => simp [Ctx.ob, Ctx.sub] at hq
    | o i => exact ⟨.o i, o, b.sub i o hq, he⟩
  · obtain ⟨q, o, hq, he⟩ := ho
    rcases ob_back b hq with ⟨i, rfl, hi, h1, h2, h3⟩ | ⟨h1, h2, h3⟩
    · have := b.st.ext.own c hc ⟨.o i, o, h1, h3.symm.trans he⟩
      obtain ⟨q', o', hq', he'⟩ := this
      cases q' with
      | l t => simp [Ctx.ob, Ctx.sub] at hq'
      | o j => exact ⟨.o j, o', b.sub j o' hq', he'⟩
    · exact ⟨q, o, h2, h3.symm.trans he⟩
  · refine ⟨b.st.ok.lt, b.low, fun q o hq => ?_, fun q o hq => ?_, fun q r o o' hq hr he => ?_⟩
    · rcases ob_back b hq with ⟨i, rfl, hi, h1, h2, h3⟩ | ⟨h1, h2, h3⟩
      · rw [h3]; exact b.st.ok.place _ o h1
      · rw [h3]; exact Nat.lt_of_lt_of_le (b.hk.place q o h2) hsz
    · rcases ob_back b hq with ⟨i, rfl, hi, h1, h2, h3⟩ | ⟨h1, h2, h3⟩
      · exact obj_in (k := k') (k' := k.back k' ins h) (p := p) (fun _ _ _ h => h) (I_left b) (b.st.ok.at_ _ o h1) (b.ob i o h2 hi) h3 rfl (fun j e => by injection e with e; subst e; simp [Ctx.back, hi]) (fun _ h => h) (fun _ _ h => h)
      · have hpl := b.hk.place q o h2
        have hn := not_own b h2 h1
        obtain ⟨f1, f2⟩ := b.st.ext.frame _ hpl hn
        have hat := b.hk.at_ q o h2
        have hr : ∀ i, q = .o i → (k.back k' ins h).rho i = k.rho i := fun i e => by simp [Ctx.back, h1 i e]
        -- frozen cells: what stays, stays
        cases o with
        | cells cs fz =>
          obtain ⟨c1, c2⟩ := hat
          refine ⟨?_, fun hf o hs => ?_⟩
          · rw [h3]; exact cellsAt_keep hC (I_back b) c1 f1
          · rw [h3] at hs; exact c2 hf o (f2 o hs)
        | row xs sz fz =>
          obtain ⟨⟨arr, ty, fr, cap, a1, hfr, a2, a3, a4, a5⟩, a6, a7⟩ := hat
          refine ⟨⟨arr, ty, fr, cap, ?_, hfr, fun i e => ?_, a3, a4, fun i v j u hi hj => ?_⟩, a6, fun hf o hs => ?_⟩
          · rw [h3]; exact f1.trans a1
          · rw [hr i e, h3]; exact a2 i e
          · obtain ⟨x, b1, b2, b3, b4⟩ := a5 i v j u hi hj
            refine ⟨x, b1, b2.mono hC, b3, fun hf => ?_⟩
            rw [h3]
            exact (hC (k.pl q) (i * sz + j) x ⟨b4 hf, by rw [cell_of_row _ _ _ _ _ _ a1]; exact b1⟩).1
          · rw [h3] at hs; exact a7 hf o (f2 o hs)
        | map es =>
          obtain ⟨⟨ents, clock, a1, a2, a3⟩, a4⟩ := hat
          refine ⟨⟨ents, clock, ?_, a2, fun i key v ent hi he => ⟨(a3 i key v ent hi he).1, (a3 i key v ent hi he).2.mono hC⟩⟩, fun o hs => ?_⟩
          · rw [h3]; exact f1.trans a1
          · rw [h3] at hs; exact a4 o (f2 o hs)
    · rcases ob_back b hq with ⟨i, rfl, hi, h1, h2, h3⟩ | ⟨h1, h2, h3⟩
      · rcases ob_back b hr with ⟨j, rfl, hj, g1, g2, g3⟩ | ⟨g1, g2, g3⟩
        · rw [h3, g3] at he; exact b.st.ok.inj _ _ o o' h1 g1 he
        · exfalso
          rw [h3, g3] at he
          exact not_own b g2 g1 (b.st.ext.own _ (b.hk.place r o' g2) ⟨.o i, o, h1, he⟩)
      · rcases ob_back b hr with ⟨j, rfl, hj, g1, g2, g3⟩ | ⟨g1, g2, g3⟩
        · exfalso
          rw [h3, g3] at he
          exact not_own b h2 h1 (b.st.ext.own _ (b.hk.place q o h2) ⟨.o j, o', g1, he.symm⟩)
        · rw [h3, g3] at he; exact b.hk.inj q r o o' h2 g2 he
end
end Go.Proofs.YthpggdlhoegndaaDoor.LM
