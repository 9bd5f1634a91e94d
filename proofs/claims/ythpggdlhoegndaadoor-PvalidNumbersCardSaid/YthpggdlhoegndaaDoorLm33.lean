/-
  ONE LEMMA FOR EACH KIND OF OPERATION: what 'simp' takes to run a region.
-/
import Derived.Test.YthpggdlhoegndaaDoorLm32
set_option linter.all false
namespace Go.Proofs.YthpggdlhoegndaaDoor.LM
open Go

section
variable {cf : Cfg} {ev : Ev} {s : St2} {k : St2 → Option (Ex × St2)}
theorem b2_normal : bind2 (some (.normal, s)) k = k s := rfl
theorem b2_panic {v : V} : bind2 (some (.panic v, s)) k = some (.panic v, s) := rfl
theorem b2_none : bind2 Option.none k = Option.none := rfl
theorem bd_normal : bindD (some (.normal, s)) k = k s := rfl
theorem r2_nil : run2 cf ev [] s = some (.normal, s) := rfl
theorem r2_cons (o : LOper) (r : List LOper) : run2 cf ev (o :: r) s = bind2 (one2 cf ev o s) (run2 cf ev r) := rfl
theorem d2_nil (as : List Acc) : draw2 cf ev [] as s = some (.normal, s) := rfl
theorem d2_free (o : Option Nat) (op : LOp) (xs : List X) (g : Option (Nat × Bool)) (r : List LOper) (as : List Acc) :
    draw2 cf ev (⟨o, op, xs, g, []⟩ :: r) as s = bindD (one2 cf ev ⟨o, op, xs, g, []⟩ s) (draw2 cf ev r (as ++ [acc2 cf ev ⟨o, op, xs, g, []⟩ s])) := rfl
theorem d2_cons (o : Option Nat) (op : LOp) (xs : List X) (g : Option (Nat × Bool)) (u : Nat) (us : List Nat) (r : List LOper) (as : List Acc) :
    draw2 cf ev (⟨o, op, xs, g, u :: us⟩ :: r) as s = bif okAcc as (u :: us) (acc2 cf ev ⟨o, op, xs, g, u :: us⟩ s) then bindD (one2 cf ev ⟨o, op, xs, g, u :: us⟩ s) (draw2 cf ev r (as ++ [acc2 cf ev ⟨o, op, xs, g, u :: us⟩ s])) else Option.none := rfl
theorem o2_free (d : Option Nat) (op : LOp) (xs : List X) (u : List Nat) : one2 cf ev ⟨d, op, xs, Option.none, u⟩ s = ex2 (plan cf ev d op (xs.map (X.ev2 s.fr))) d s := rfl
theorem o2_guard (d : Option Nat) (op : LOp) (xs : List X) (u : List Nat) (t : Nat) (b : Bool) :
    one2 cf ev ⟨d, op, xs, some (t, b), u⟩ s = bif (match s.fr t with | .bool c => b == c | _ => false) then ex2 (plan cf ev d op (xs.map (X.ev2 s.fr))) d s else put2 d .undef s := rfl
theorem p2_none (v : V) : put2 Option.none v s = some (.normal, s) := rfl
theorem p2_some (d : Nat) (v : V) (n : Nat) (fr : Nat → V) (lo : Nat → Nat × List V) (hs : HS) : put2 (some d) v ⟨n, fr, lo, hs⟩ = if d < n then some (.normal, ⟨n, up2 fr d v, lo, hs⟩) else Option.none := by
  simp only [put2, nblt]; by_cases h : d < n <;> simp [h]
theorem e2_val (v : V) (d : Option Nat) : ex2 (ok1 (some v)) d s = put2 d v s := rfl
theorem e2_pure (v : V) (d : Option Nat) : ex2 (.pure (some (.val v))) d s = put2 d v s := rfl
theorem e2_skip (d : Option Nat) : ex2 (.pure (some .skip)) d s = put2 d .undef s := rfl
theorem e2_panic (v : V) (d : Option Nat) : ex2 (.pure (some (.panic v))) d s = some (.panic v, s) := rfl
/-- how what came of an access goes on -/
def goOn (d : Option Nat) (s : St2) : Option Out → Option (Ex × St2)
  | some (.val v) => put2 d v s
  | some .skip => put2 d .undef s
  | some (.panic v) => some (.panic v, s)
  | Option.none => Option.none
theorem go_val (d : Option Nat) (v : V) : goOn d s (some (.val v)) = put2 d v s := rfl
theorem go_skip (d : Option Nat) : goOn d s (some .skip) = put2 d .undef s := rfl
theorem go_panic (d : Option Nat) (v : V) : goOn d s (some (.panic v)) = some (.panic v, s) := rfl
def goW (d : Option Nat) (n : Nat) (fr : Nat → V) (lo : Nat → Nat × List V) : Option (Out × HS) → Option (Ex × St2)
  | some (.val v, h) => put2 d v ⟨n, fr, lo, h⟩
  | some (.skip, h) => put2 d .undef ⟨n, fr, lo, h⟩
  | some (.panic v, h) => some (.panic v, ⟨n, fr, lo, h⟩)
  | Option.none => Option.none
theorem gw_val (d : Option Nat) (n : Nat) (fr : Nat → V) (lo : Nat → Nat × List V) (v : V) (h : HS) : goW d n fr lo (some (.val v, h)) = put2 d v ⟨n, fr, lo, h⟩ := rfl
theorem gw_skip (d : Option Nat) (n : Nat) (fr : Nat → V) (lo : Nat → Nat × List V) (h : HS) : goW d n fr lo (some (.skip, h)) = put2 d .undef ⟨n, fr, lo, h⟩ := rfl
theorem gw_panic (d : Option Nat) (n : Nat) (fr : Nat → V) (lo : Nat → Nat × List V) (v : V) (h : HS) : goW d n fr lo (some (.panic v, h)) = some (.panic v, ⟨n, fr, lo, h⟩) := rfl
def goL (d : Option Nat) (n : Nat) (fr : Nat → V) (lo : Nat → Nat × List V) (hs : HS) (t : Nat) : Option (Out × (Nat × List V)) → Option (Ex × St2)
  | some (.val v, l) => put2 d v ⟨n, fr, up2 lo t l, hs⟩
  | some (.skip, l) => put2 d .undef ⟨n, fr, up2 lo t l, hs⟩
  | some (.panic v, l) => some (.panic v, ⟨n, fr, up2 lo t l, hs⟩)
  | Option.none => Option.none
theorem gl_val (d : Option Nat) (n : Nat) (fr : Nat → V) (lo : Nat → Nat × List V) (hs : HS) (t : Nat) (v : V) (l : Nat × List V) : goL d n fr lo hs t (some (.val v, l)) = put2 d v ⟨n, fr, up2 lo t l, hs⟩ := rfl
theorem gl_skip (d : Option Nat) (n : Nat) (fr : Nat → V) (lo : Nat → Nat × List V) (hs : HS) (t : Nat) (l : Nat × List V) : goL d n fr lo hs t (some (.skip, l)) = put2 d .undef ⟨n, fr, up2 lo t l, hs⟩ := rfl
section
variable (d : Option Nat) (n : Nat) (fr : Nat → V) (lo : Nat → Nat × List V) (hs : HS)
theorem e2_locR (t : Nat) (f : Nat × List V → Option Out) : ex2 (.locR t f) d ⟨n, fr, lo, hs⟩ = if t < n then goOn d ⟨n, fr, lo, hs⟩ (f ((lo t).1, (lo t).2)) else Option.none := by
  simp only [ex2, nblt]
  by_cases h : t < n
  · simp only [h, decide_true, cond_true, if_true]; rfl
  · simp only [h, decide_false, cond_false, if_false]
theorem e2_locW (t : Nat) (f : Nat × List V → Option (Out × (Nat × List V))) : ex2 (.locW t f) d ⟨n, fr, lo, hs⟩ = if t < n then goL d n fr lo hs t (f ((lo t).1, (lo t).2)) else Option.none := by
  simp only [ex2, nblt]
  by_cases h : t < n
  · simp only [h, decide_true, cond_true, if_true]; rfl
  · simp only [h, decide_false, cond_false, if_false]
theorem e2_obR (i : Nat) (f : Ob → Option Out) : ex2 (.obR i f) d ⟨n, fr, lo, hs⟩ = goOn d ⟨n, fr, lo, hs⟩ (match hs.get i with | some o => f o | Option.none => Option.none) := by
  simp only [ex2]; cases hs.get i <;> rfl
theorem e2_obs (vs : List V) (f : HS → Option (Out × HS)) : ex2 (.obs vs f) d ⟨n, fr, lo, hs⟩ = goW d n fr lo (match f (hs.only (idsOf hs vs)) with | some (o, h) => some (o, ⟨hs.c, merge (idsOf hs vs) h hs.os⟩) | Option.none => Option.none) := by
  simp only [ex2]
  cases f (hs.only (idsOf hs vs)) with
  | none => rfl
  | some p => obtain ⟨o, h⟩ := p; cases o <;> rfl
theorem e2_hpR (f : HS → Option Out) : ex2 (.hpR f) d ⟨n, fr, lo, hs⟩ = goOn d ⟨n, fr, lo, hs⟩ (f hs) := by
  simp only [ex2]; rfl
theorem e2_hpW (f : HS → Option (Out × HS)) : ex2 (.hpW f) d ⟨n, fr, lo, hs⟩ = goW d n fr lo (f hs) := by
  simp only [ex2]; rfl
end
theorem okAcc_nil (as : List Acc) (a : Acc) : okAcc as [] a = true := rfl
theorem okAcc_cons (as : List Acc) (u : Nat) (us : List Nat) (a : Acc) : okAcc as (u :: us) a = (Acc.ok (as.getD u .hpW) a && okAcc as us a) := rfl
theorem acc_free (d : Option Nat) (op : LOp) (xs : List X) (u : List Nat) (n : Nat) (fr : Nat → V) (lo : Nat → Nat × List V) (hs : HS) :
    acc2 cf ev ⟨d, op, xs, Option.none, u⟩ ⟨n, fr, lo, hs⟩ = (plan cf ev d op (xs.map (X.ev2 fr))).acc hs := rfl
theorem acc_guard (d : Option Nat) (op : LOp) (xs : List X) (u : List Nat) (n t : Nat) (b : Bool) (fr : Nat → V) (lo : Nat → Nat × List V) (hs : HS) :
    acc2 cf ev ⟨d, op, xs, some (t, b), u⟩ ⟨n, fr, lo, hs⟩ = bif (match fr t with | .bool c => b == c | _ => false) then (plan cf ev d op (xs.map (X.ev2 fr))).acc hs else .none := rfl
theorem ac_pure (r : Option Out) (h : HS) : (Act1.pure r).acc h = .none := rfl
theorem ac_locR (t : Nat) (f : Nat × List V → Option Out) (h : HS) : (Act1.locR t f).acc h = .locR t := rfl
theorem ac_locW (t : Nat) (f : Nat × List V → Option (Out × (Nat × List V))) (h : HS) : (Act1.locW t f).acc h = .locW t := rfl
theorem ac_obR (i : Nat) (f : Ob → Option Out) (h : HS) : (Act1.obR i f).acc h = .obR i := rfl
theorem ac_obs (vs : List V) (f : HS → Option (Out × HS)) (h : HS) : (Act1.obs vs f).acc h = .obs (idsOf h vs) := rfl
theorem ac_hpR (f : HS → Option Out) (h : HS) : (Act1.hpR f).acc h = .hpR := rfl
theorem ac_hpW (f : HS → Option (Out × HS)) (h : HS) : (Act1.hpW f).acc h = .hpW := rfl
theorem ok1_acc (v : Option V) (h : HS) : (ok1 v).acc h = .none := rfl
end

/-! ### sums, comparisons .. of one kind -/
section
variable (k : IntKind) (a b : Int)
theorem bin_add : binV .add (.int k a) (.int k b) = some (.int k (k.wrap (a + b))) := by simp [binV, arith]
theorem bin_sub : binV .sub (.int k a) (.int k b) = some (.int k (k.wrap (a - b))) := by simp [binV, arith]
theorem bin_mul : binV .mul (.int k a) (.int k b) = some (.int k (k.wrap (a * b))) := by simp [binV, arith]
theorem bin_eql : binV .eql (.int k a) (.int k b) = some (.bool (decide (a = b))) := by
  have e : (a == b) = decide (a = b) := by by_cases h : a = b <;> simp [h]
  simp [binV, arith, e]
theorem bin_neq : binV .neq (.int k a) (.int k b) = some (.bool (!decide (a = b))) := by
  have e : (a == b) = decide (a = b) := by by_cases h : a = b <;> simp [h]
  simp [binV, arith, bne, e]
theorem bin_lss : binV .lss (.int k a) (.int k b) = some (.bool (decide (a < b))) := by simp [binV, arith]
theorem bin_leq : binV .leq (.int k a) (.int k b) = some (.bool (decide (a ≤ b))) := by simp [binV, arith]
theorem bin_gtr : binV .gtr (.int k a) (.int k b) = some (.bool (decide (b < a))) := by simp [binV, arith]
theorem bin_geq : binV .geq (.int k a) (.int k b) = some (.bool (decide (b ≤ a))) := by simp [binV, arith]
theorem bin_quo (h : b ≠ 0) : binV .quo (.int k a) (.int k b) = some (.int k (k.wrap (a.tdiv b))) := by simp [binV, arith, h]
theorem bin_rem (h : b ≠ 0) : binV .rem (.int k a) (.int k b) = some (.int k (a.tmod b)) := by simp [binV, arith, h]
theorem bin_bit_and : binV .and (.int k a) (.int k b) = bit .and k a b := by simp [binV, arith]
theorem bin_bit_or : binV .or (.int k a) (.int k b) = bit .or k a b := by simp [binV, arith]
theorem bin_bit_xor : binV .xor (.int k a) (.int k b) = bit .xor k a b := by simp [binV, arith]
theorem bin_shl (j : IntKind) (h : 0 ≤ b) : binV .shl (.int k a) (.int j b) = some (.int k (k.wrap (a * 2 ^ min b.toNat k.bits))) := by
  have : ¬ b < 0 := by omega
  simp [binV, shiftV, this]
theorem bin_shr (j : IntKind) (h : 0 ≤ b) : binV .shr (.int k a) (.int j b) = some (.int k (a.fdiv (2 ^ min b.toNat k.bits))) := by
  have : ¬ b < 0 := by omega
  simp [binV, shiftV, this]
end
section
variable (a b : List UInt8)
theorem bin_seql : binV .eql (.str a) (.str b) = some (.bool (decide (a = b))) := by
  have e : (a == b) = decide (a = b) := by by_cases h : a = b <;> simp [h]
  simp only [binV, strOp, e]
theorem bin_sneq : binV .neq (.str a) (.str b) = some (.bool (!decide (a = b))) := by
  have e : (a == b) = decide (a = b) := by by_cases h : a = b <;> simp [h]
  simp only [binV, strOp, e]
theorem bin_slss : binV .lss (.str a) (.str b) = some (.bool (Op.bytesLess a b)) := rfl
theorem bin_sgeq : binV .geq (.str a) (.str b) = some (.bool (!Op.bytesLess a b)) := rfl
theorem bin_saddL : binV .add (.str a) (.str b) = if a.length + b.length < 9223372036854775808 then some (.str (a ++ b)) else Option.none := by
  have e : (((a.length + b.length : Nat) : Int) > IntKind.i64.max) ↔ ¬ (a.length + b.length < 9223372036854775808) := by
    simp only [IntKind.max, IntKind.signed, IntKind.bits]; simp; omega
  simp only [binV, strOp]
  by_cases h : a.length + b.length < 9223372036854775808
  · rw [if_pos h, decide_eq_false (by rw [e]; simpa using h)]; rfl
  · rw [if_neg h, decide_eq_true (by rw [e]; exact h)]; rfl
theorem bin_sadd (h : (a.length : Int) + b.length ≤ 9223372036854775807) : binV .add (.str a) (.str b) = some (.str (a ++ b)) := by
  have : ¬ (((a.length + b.length : Nat) : Int) > IntKind.i64.max) := by simp only [IntKind.max, IntKind.signed, IntKind.bits]; simp; omega
  simp only [binV, strOp, decide_eq_false this, cond_false]
end
theorem up2_at {α : Type} (f : Nat → α) (i j : Nat) (v : α) : up2 f i v j = if j = i then v else f j := by
  unfold up2; rw [nbeq]; by_cases h : j = i <;> simp [h]
theorem pcall_code' {cf : Cfg} {f nt : Nat} {rs : List RV} {body : LCode} {args : List V} {r : Res} {imp : Nat} (hf : cf.fn f = some (.code ⟨nt, rs, body⟩)) (hi : cf.imp f = imp) (h1 : Nat.ble args.length nt = true) (h2 : Nat.ble nt 4095 = true)
    (hw : WC cf body ⟨nt, frOf args, lo0, HS.none⟩ (fun e s => resOf2 (fin2 imp rs e s) = some r)) : PCall cf f args = some r := by
  subst hi; exact pcall_code hf h1 h2 hw
theorem call_code' {cf : Cfg} {f nt : Nat} {rs : List RV} {body : LCode} {args : List V} {h : HS} {r : Res × HS} {imp : Nat} (hf : cf.fn f = some (.code ⟨nt, rs, body⟩)) (hi : cf.imp f = imp) (h1 : Nat.ble args.length nt = true) (h2 : Nat.ble nt 4095 = true)
    (hw : WC cf body ⟨nt, frOf args, lo0, h⟩ (fun e s => fin2 imp rs e s = some r)) : Call cf f args h = some r := by
  subst hi; exact call_code hf h1 h2 hw
section
variable {cf : Cfg} {ev : Ev} {d : Option Nat} {vs : List V}
theorem pl_mv : plan cf ev d (.mv ) vs = plan_mv cf ev d vs := rfl
theorem pl_pick : plan cf ev d (.pick ) vs = plan_pick cf ev d vs := rfl
theorem pl_alloc (a : List V) (b : Bool) : plan cf ev d (.alloc a b) vs = plan_alloc cf ev d a b vs := rfl
theorem pl_box (a : Bool) : plan cf ev d (.box a) vs = plan_box cf ev d a vs := rfl
theorem pl_build (a : List V) (b : List (Nat × Nat)) : plan cf ev d (.build a b) vs = plan_build cf ev d a b vs := rfl
theorem pl_lit (a : Nat) (b : Nat) (c : V) (f : List Nat) (e : Bool) : plan cf ev d (.lit a b c f e) vs = plan_lit cf ev d a b c f e vs := rfl
theorem pl_load (a : Bool) (b : Nat) : plan cf ev d (.load a b) vs = plan_load cf ev d a b vs := rfl
theorem pl_store (a : Nat) : plan cf ev d (.store a) vs = plan_store cf ev d a vs := rfl
theorem pl_nilck : plan cf ev d (.nilck ) vs = plan_nilck cf ev d vs := rfl
theorem pl_bin (a : BinOp) : plan cf ev d (.bin a) vs = plan_bin cf ev d a vs := rfl
theorem pl_eqb (a : Bool) : plan cf ev d (.eqb a) vs = plan_eqb cf ev d a vs := rfl
theorem pl_eqa (a : Bool) (b : List TK) : plan cf ev d (.eqa a b) vs = plan_eqa cf ev d a b vs := rfl
theorem pl_eqs (a : Bool) : plan cf ev d (.eqs a) vs = plan_eqs cf ev d a vs := rfl
theorem pl_un (a : UnOp) : plan cf ev d (.un a) vs = plan_un cf ev d a vs := rfl
theorem pl_conv (a : Conv) : plan cf ev d (.conv a) vs = plan_conv cf ev d a vs := rfl
theorem pl_mki (a : Nat) : plan cf ev d (.mki a) vs = plan_mki cf ev d a vs := rfl
theorem pl_mkf (a : Nat) (b : Bool) : plan cf ev d (.mkf a b) vs = plan_mkf cf ev d a b vs := rfl
theorem pl_mkmap : plan cf ev d (.mkmap ) vs = plan_mkmap cf ev d vs := rfl
theorem pl_mkslice (a : V) (b : Nat) (c : Nat) : plan cf ev d (.mkslice a b c) vs = plan_mkslice cf ev d a b c vs := rfl
theorem pl_sstr (a : Bool) (b : Bool) : plan cf ev d (.sstr a b) vs = plan_sstr cf ev d a b vs := rfl
theorem pl_sslc (a : Bool) (b : Bool) (c : Nat) : plan cf ev d (.sslc a b c) vs = plan_sslc cf ev d a b c vs := rfl
theorem pl_fld (a : Bool) (b : Nat) (c : Nat) : plan cf ev d (.fld a b c) vs = plan_fld cf ev d a b c vs := rfl
theorem pl_fad (a : Nat) : plan cf ev d (.fad a) vs = plan_fad cf ev d a vs := rfl
theorem pl_iadA (a : Nat) (b : Nat) : plan cf ev d (.iadA a b) vs = plan_iadA cf ev d a b vs := rfl
theorem pl_iadS (a : Nat) : plan cf ev d (.iadS a) vs = plan_iadS cf ev d a vs := rfl
theorem pl_idxS : plan cf ev d (.idxS ) vs = plan_idxS cf ev d vs := rfl
theorem pl_idxA (a : Nat) (b : Nat) (c : Bool) : plan cf ev d (.idxA a b c) vs = plan_idxA cf ev d a b c vs := rfl
theorem pl_look (a : V) (b : Bool) (c : TK) : plan cf ev d (.look a b c) vs = plan_look cf ev d a b c vs := rfl
theorem pl_mset (a : TK) : plan cf ev d (.mset a) vs = plan_mset cf ev d a vs := rfl
theorem pl_ext (a : Nat) : plan cf ev d (.ext a) vs = plan_ext cf ev d a vs := rfl
theorem pl_call (a : Nat) : plan cf ev d (.call a) vs = plan_call cf ev d a vs := rfl
theorem pl_callv : plan cf ev d (.callv ) vs = plan_callv cf ev d vs := rfl
theorem pl_app (a : Nat) (b : Nat) : plan cf ev d (.app a b) vs = plan_app cf ev d a b vs := rfl
theorem pl_len (a : Nat) : plan cf ev d (.len a) vs = plan_len cf ev d a vs := rfl
theorem pl_minmax (a : Bool) : plan cf ev d (.minmax a) vs = plan_minmax cf ev d a vs := rfl
theorem pl_panic : plan cf ev d (.panic ) vs = plan_panic cf ev d vs := rfl
end
attribute [go_sem] bin_saddL
attribute [go_sem] r2_nil r2_cons d2_nil d2_free d2_cons b2_normal b2_panic bd_normal o2_free o2_guard p2_none p2_some e2_val e2_pure e2_skip e2_panic go_val go_skip go_panic gw_val gw_skip gw_panic gl_val gl_skip e2_locR e2_locW e2_obR e2_obs e2_hpR e2_hpW okAcc_nil okAcc_cons acc_free acc_guard ok1_acc
  ac_pure ac_locR ac_locW ac_obR ac_obs ac_hpR ac_hpW Acc.ok X.ev2 List.map_cons List.map_nil frOf lo0 up2_at nbeq nble nblt
  pl_mv pl_pick pl_alloc pl_box pl_build pl_lit pl_load pl_store pl_nilck pl_bin pl_eqb pl_eqa pl_eqs pl_un pl_conv pl_mki pl_mkf pl_mkmap pl_mkslice pl_sstr pl_sslc pl_fld pl_fad pl_iadA pl_iadS pl_idxS pl_idxA pl_look pl_mset pl_ext pl_call pl_callv pl_app pl_len pl_minmax pl_panic plan_mv plan_pick plan_alloc plan_box plan_build plan_load plan_store plan_nilck plan_bin plan_eqb plan_eqa plan_eqs plan_un plan_mki plan_mkf plan_mkmap plan_fld plan_fad plan_iadA plan_idxA plan_ext plan_len plan_minmax plan_panic plan_call plan_callv plan_conv plan_iadS plan_idxS plan_sstr plan_sslc plan_lit plan_app plan_look plan_mset plan_mkslice
  bin_add bin_sub bin_mul bin_eql bin_neq bin_lss bin_leq bin_gtr bin_geq bin_bit_and bin_bit_or bin_bit_xor bin_quo bin_rem bin_shl bin_shr bin_seql bin_sneq bin_slss bin_sgeq bin_sadd
  loadV storeV part putCells fillCells fillRow unV V.cells V.one V.isUndef V.pure V.pureIf V.pureCell V.hasRow calm calmCell mapO callPure_eq retPure callV
  List.all_cons List.all_nil List.any_cons List.any_nil List.getD_cons_zero List.getD_cons_succ List.getD_nil List.getElem?_cons_zero List.getElem?_cons_succ List.length_cons List.length_nil List.drop_zero List.drop_succ_cons List.take_succ_cons List.take_zero List.drop_nil List.take_nil List.cons_append List.nil_append List.append_nil List.replicate_succ List.replicate_zero List.set_cons_zero List.set_cons_succ
  cond_true cond_false Bool.and_true Bool.true_and Bool.and_false Bool.false_and Bool.or_true Bool.true_or Bool.or_false Bool.false_or Bool.not_true Bool.not_false Bool.xor_false Bool.false_xor Bool.true_beq Bool.false_beq decide_true decide_false Bool.false_eq_true Bool.true_eq_false ite_true ite_false ne_eq not_true not_false_eq_true beq_self_eq_true bne_self_eq_false
  Nat.add_eq Nat.zero_add Nat.add_zero Int.toNat_zero Int.toNat_one ge_iff_le gt_iff_lt eq_self Int.cast_ofNat_Int Nat.lt_irrefl Nat.le_refl
  wrap_i64 wrap_u64 wrap_u8 wrap_u32 wrap_i32
/-! ### a region, operation by operation -/
def WR (cf : Cfg) (ops : List LOper) (s : St2) (Q : Ex → St2 → Prop) : Prop := ∃ e s', run2 cf (Call cf) ops s = some (e, s') ∧ Q e s'
def WD (cf : Cfg) (ops : List LOper) (as : List Acc) (s : St2) (Q : Ex → St2 → Prop) : Prop := ∃ e s', draw2 cf (Call cf) ops as s = some (e, s') ∧ Q e s'
section
variable {cf : Cfg} {s s' : St2} {Q : Ex → St2 → Prop} {ops r : List LOper} {as : List Acc} {o : LOper}
theorem wr_start (h : WR cf ops s Q) : WC cf (.reg ops false) s Q := by obtain ⟨e, s', h1, h2⟩ := h; exact wc_reg h1 h2
theorem wd_start (h : WD cf ops [] s Q) : WC cf (.reg ops true) s Q := by obtain ⟨e, s', h1, h2⟩ := h; exact wc_draw h1 h2
theorem wr_nil (h : Q .normal s) : WR cf [] s Q := ⟨_, _, rfl, h⟩
theorem wd_nil (h : Q .normal s) : WD cf [] as s Q := ⟨_, _, rfl, h⟩
theorem wr_cons (h : one2 cf (Call cf) o s = some (.normal, s')) (k : WR cf r s' Q) : WR cf (o :: r) s Q := by
  obtain ⟨e, s2, h1, h2⟩ := k
  exact ⟨e, s2, by simp only [r2_cons, h, b2_normal]; exact h1, h2⟩
theorem wr_panic {v : V} (h : one2 cf (Call cf) o s = some (.panic v, s')) (k : Q (.panic v) s') : WR cf (o :: r) s Q :=
  ⟨_, _, by simp only [r2_cons, h, b2_panic], k⟩
theorem wd_free {d : Option Nat} {op : LOp} {xs : List X} {g : Option (Nat × Bool)} (h : one2 cf (Call cf) ⟨d, op, xs, g, []⟩ s = some (.normal, s')) (k : WD cf r (as ++ [acc2 cf (Call cf) ⟨d, op, xs, g, []⟩ s]) s' Q) : WD cf (⟨d, op, xs, g, []⟩ :: r) as s Q := by
  obtain ⟨e, s2, h1, h2⟩ := k
  exact ⟨e, s2, by simp only [d2_free, h, bd_normal]; exact h1, h2⟩
theorem wd_cons {d : Option Nat} {op : LOp} {xs : List X} {g : Option (Nat × Bool)} {u : Nat} {us : List Nat} (ha : okAcc as (u :: us) (acc2 cf (Call cf) ⟨d, op, xs, g, u :: us⟩ s) = true) (h : one2 cf (Call cf) ⟨d, op, xs, g, u :: us⟩ s = some (.normal, s'))
    (k : WD cf r (as ++ [acc2 cf (Call cf) ⟨d, op, xs, g, u :: us⟩ s]) s' Q) : WD cf (⟨d, op, xs, g, u :: us⟩ :: r) as s Q := by
  obtain ⟨e, s2, h1, h2⟩ := k
  exact ⟨e, s2, by simp only [d2_cons, ha, h, bd_normal, cond_true]; exact h1, h2⟩
end
section
variable {cf : Cfg} {n : Nat} {fr : Nat → V} {lo : Nat → Nat × List V} {hs : HS} {Q : Ex → St2 → Prop} {r : List LOper} {as : List Acc} {d : Option Nat} {op : LOp} {xs : List X} {u : List Nat} {t : Nat} {b c : Bool}
theorem up2_self {α : Type} {f : Nat → α} {i : Nat} {v : α} (h : f i = v) : up2 f i v = f := by
  funext j; rw [up2_at]; by_cases hj : j = i
  · subst hj; simp [h]
  · simp [hj]
/-- a guarded operation: it is done, or not -/
theorem wr_guard (h : fr t = .bool c) (h1 : c = b → WR cf (⟨d, op, xs, Option.none, u⟩ :: r) ⟨n, up2 fr t (.bool b), lo, hs⟩ Q) (h2 : c = (!b) → WR cf (⟨d, .mv, [.c .undef], Option.none, u⟩ :: r) ⟨n, up2 fr t (.bool (!b)), lo, hs⟩ Q) :
    WR cf (⟨d, op, xs, some (t, b), u⟩ :: r) ⟨n, fr, lo, hs⟩ Q := by
  by_cases hb : c = b
  · have h' := h1 hb
    subst hb
    rw [up2_self h] at h'
    have e : one2 cf (Call cf) ⟨d, op, xs, some (t, c), u⟩ ⟨n, fr, lo, hs⟩ = one2 cf (Call cf) ⟨d, op, xs, Option.none, u⟩ ⟨n, fr, lo, hs⟩ := by rw [o2_guard, o2_free]; simp only [h, beq_self_eq_true, cond_true]
    unfold WR at h' ⊢
    simp only [r2_cons, e] at h' ⊢
    exact h'
  · have hb' : c = (!b) := by cases c <;> cases b <;> simp_all
    have h' := h2 hb'
    rw [← hb', up2_self h] at h'
    have e : one2 cf (Call cf) ⟨d, op, xs, some (t, b), u⟩ ⟨n, fr, lo, hs⟩ = one2 cf (Call cf) ⟨d, .mv, [.c .undef], Option.none, u⟩ ⟨n, fr, lo, hs⟩ := by
      have : (b == c) = false := by rw [hb']; cases b <;> rfl
      rw [o2_guard]
      show (bif (match fr t with | .bool c => b == c | _ => false) then _ else _) = _
      rw [h]
      show (bif (b == c) then _ else _) = _
      rw [this]; rfl
    unfold WR at h' ⊢
    simp only [r2_cons, e] at h' ⊢
    exact h'
theorem wd_guard (h : fr t = .bool c) (h1 : c = b → WD cf (⟨d, op, xs, Option.none, u⟩ :: r) as ⟨n, up2 fr t (.bool b), lo, hs⟩ Q) (h2 : c = (!b) → WD cf (⟨d, .mv, [.c .undef], Option.none, u⟩ :: r) as ⟨n, up2 fr t (.bool (!b)), lo, hs⟩ Q) :
    WD cf (⟨d, op, xs, some (t, b), u⟩ :: r) as ⟨n, fr, lo, hs⟩ Q := by
  by_cases hb : c = b
  · have h' := h1 hb
    subst hb
    rw [up2_self h] at h'
    have e : one2 cf (Call cf) ⟨d, op, xs, some (t, c), u⟩ ⟨n, fr, lo, hs⟩ = one2 cf (Call cf) ⟨d, op, xs, Option.none, u⟩ ⟨n, fr, lo, hs⟩ := by rw [o2_guard, o2_free]; simp only [h, beq_self_eq_true, cond_true]
    have ea : acc2 cf (Call cf) ⟨d, op, xs, some (t, c), u⟩ ⟨n, fr, lo, hs⟩ = acc2 cf (Call cf) ⟨d, op, xs, Option.none, u⟩ ⟨n, fr, lo, hs⟩ := by rw [acc_guard, acc_free]; simp only [h, beq_self_eq_true, cond_true]
    unfold WD at h' ⊢
    simp only [draw2, e, ea] at h' ⊢
    exact h'
  · have hb' : c = (!b) := by cases c <;> cases b <;> simp_all
    have h' := h2 hb'
    rw [← hb', up2_self h] at h'
    have hbc : (b == c) = false := by rw [hb']; cases b <;> rfl
    have e : one2 cf (Call cf) ⟨d, op, xs, some (t, b), u⟩ ⟨n, fr, lo, hs⟩ = one2 cf (Call cf) ⟨d, .mv, [.c .undef], Option.none, u⟩ ⟨n, fr, lo, hs⟩ := by
      rw [o2_guard]
      show (bif (match fr t with | .bool c => b == c | _ => false) then _ else _) = _
      rw [h]
      show (bif (b == c) then _ else _) = _
      rw [hbc]; rfl
    have ea : acc2 cf (Call cf) ⟨d, op, xs, some (t, b), u⟩ ⟨n, fr, lo, hs⟩ = acc2 cf (Call cf) ⟨d, .mv, [.c .undef], Option.none, u⟩ ⟨n, fr, lo, hs⟩ := by
      rw [acc_guard, acc_free]; simp only [h, hbc, cond_false]; rfl
    unfold WD at h' ⊢
    simp only [draw2, e, ea] at h' ⊢
    exact h'
end
attribute [irreducible] WR WD
/-- a function value that may be called with values -/
structure Fun (cf : Cfg) (fn : Nat) (caps : List V) : Prop where
  imp : cf.imp fn = 0
  calm : mapO calm caps = some caps
  row : caps.any V.hasRow = false
  pure : caps.all V.pureCell = true
/-! ### loops, over the state's parts -/
def RoundI (n k : Nat) (I : Nat → (Nat → V) → (Nat → Nat × List V) → HS → Prop) (Q : Ex → St2 → Prop) : Ex → St2 → Prop
  | .normal, s => s.n = n ∧ ∃ j, j < k ∧ I j s.fr s.lo s.hs
  | e, s => Q e s
section
variable {cf : Cfg} {s : St2} {Q : Ex → St2 → Prop} {a : LCode} {n k : Nat} {I : Nat → (Nat → V) → (Nat → Nat × List V) → HS → Prop} {fr : Nat → V} {lo : Nat → Nat × List V} {hs : HS}
theorem ri_next {j : Nat} (hj : j < k) (h : I j fr lo hs) : RoundI n k I Q .normal ⟨n, fr, lo, hs⟩ := ⟨rfl, j, hj, h⟩
theorem ri_exit {i : Nat} (h : Q (.exit i) s) : RoundI n k I Q (.exit i) s := h
theorem ri_ret (h : Q .ret s) : RoundI n k I Q .ret s := h
theorem ri_panic {v : V} (h : Q (.panic v) s) : RoundI n k I Q (.panic v) s := h
theorem wc_loop2 (k : Nat) (I : Nat → (Nat → V) → (Nat → Nat × List V) → HS → Prop) (h0 : I k fr lo hs)
    (step : ∀ k fr' lo' hs', I k fr' lo' hs' → (∀ i, memN i (dsts a) = false → fr' i = fr i) → WC cf a ⟨n, fr', lo', hs'⟩ (RoundI n k I Q)) : WC cf (.loop a) ⟨n, fr, lo, hs⟩ Q := by
  refine wc_loop (k := k) (fun k s => I k s.fr s.lo s.hs) h0 ?_
  intro k s hI hk
  obtain ⟨n', fr', lo', hs'⟩ := s
  have hn : n' = n := hk.n
  subst hn
  refine (step k fr' lo' hs' hI hk.fr).mono ?_
  intro e s' h
  cases e with
  | normal => unfold RoundI at h; unfold Round; exact h.2
  | exit i => unfold RoundI at h; unfold Round; exact h
  | ret => unfold RoundI at h; unfold Round; exact h
  | panic v => unfold RoundI at h; unfold Round; exact h
/-- a piece of code for itself, over the state's parts -/
theorem wc_cut2 (Q1 : Ex → St2 → Prop) (h : WC cf a ⟨n, fr, lo, hs⟩ Q1) (k : ∀ e fr' lo' hs', Q1 e ⟨n, fr', lo', hs'⟩ → (∀ i, memN i (dsts a) = false → fr' i = fr i) → Q e ⟨n, fr', lo', hs'⟩) : WC cf a ⟨n, fr, lo, hs⟩ Q :=
  wc_cut Q1 h fun e s' h1 h2 => by obtain ⟨n', fr', lo', hs'⟩ := s'; have hn : n' = n := h2.n; subst hn; exact k e fr' lo' hs' h1 h2.fr
end
attribute [irreducible] RoundI
theorem str_at (s : List UInt8) (k : Nat) (h : k < s.length) : s[k]? = some s[k] := List.getElem?_eq_getElem h
theorem cast_nonneg (k : Nat) : ((0 : Int) ≤ (k : Int)) = True := eq_true (Int.natCast_nonneg k)
theorem maxI_t (a b : Int) : maxI true a b = max a b := by simp only [maxI, if_true]; omega
theorem maxI_f (a b : Int) : maxI false a b = min a b := by simp only [maxI, Bool.false_eq_true, if_false]; omega
attribute [go_sem] maxI_t maxI_f str_at cast_nonneg Int.toNat_natCast
/-- the end of a call that touches nothing -/
theorem fin_ret (rs : List RV) (s : St2) : fin2 0 rs .ret s = (match mapO (res2 s) rs with | some vs => (match stills s.hs vs with | some (vs', h') => some (.ret (packV vs'), h') | Option.none => Option.none) | Option.none => Option.none) := rfl
theorem fin_normal (rs : List RV) (s : St2) : fin2 0 rs .normal s = (match mapO (res2 s) rs with | some vs => (match stills s.hs vs with | some (vs', h') => some (.ret (packV vs'), h') | Option.none => Option.none) | Option.none => Option.none) := rfl
attribute [go_sem] fin_ret fin_normal resOf2 res2 stills still stillCell stillCells packV HS.get HS.set HS.new HS.none lookup update appV appF appPut rowOf cutAt cutV headSz eqCell eqCells eqKey findKey keyV byteOf ofByte
end Go.Proofs.YthpggdlhoegndaaDoor.LM
