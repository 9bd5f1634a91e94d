/-
  'PvalidNumbers': for every input. No condition beside the card's own.
-/
import Derived.Test.YthpggdlhoegndaaDoorX2
import Derived.Test.YthpggdlhoegndaaDoorOk
import Derived.Test.YthpggdlhoegndaaDoorTie
import Derived.Test.YthpggdlhoegndaaDoorCards
import Derived.ProofKit
import Derived.OpenShut
import Derived.LaidMore
import Derived.Lay
import Derived.SevenTiedAt
import Derived.Stop.Joined
import Derived.Below
import Derived.ChangeSame
set_option linter.all false
namespace Go.Proofs.YthpggdlhoegndaaDoor.LM
open Go Go.ChangeShapes Go.WideShapes Go.ChangeAt Go.RowKit Go.Lib

theorem rem_cases (x m : Int) (m0 : 0 < m) (m1 : m ≤ 1000) : 0 ≤ IntKind.i64.wrap ((IntKind.u64.wrap x).tmod m) ∧ IntKind.i64.wrap ((IntKind.u64.wrap x).tmod m) < m := by
  have hu : IntKind.u64.wrap x = x % 18446744073709551616 := by simp [IntKind.wrap, IntKind.bits, IntKind.signed]
  have hp : 0 ≤ x % 18446744073709551616 := Int.emod_nonneg _ (by omega)
  rw [hu, Int.tmod_eq_emod_of_nonneg hp]
  have a := Int.emod_nonneg (x % 18446744073709551616) (by omega : m ≠ 0)
  have b := Int.emod_lt_of_pos (x % 18446744073709551616) m0
  rw [wrap_i64 _ (by omega)]
  omega
theorem law_all (n u which : Int) (n0 : -9223372036854775808 ≤ n) (n1 : n ≤ 9223372036854775807) (u0 : 0 ≤ u) (u1 : u ≤ 18446744073709551615) (_ : -9223372036854775808 ≤ which) (_ : which ≤ 9223372036854775807) :
    PCall cfD n_law23_PvalidNumbers [.int .i64 n, .int .u64 u, .int .i64 which] = some (.ret (.bool true)) := by
  obtain ⟨q0, q1⟩ := rem_cases which 6 (by omega) (by omega)
  have hq : IntKind.i64.wrap ((IntKind.u64.wrap which).tmod 6) = 0 ∨ IntKind.i64.wrap ((IntKind.u64.wrap which).tmod 6) = 1 ∨ IntKind.i64.wrap ((IntKind.u64.wrap which).tmod 6) = 2 ∨ IntKind.i64.wrap ((IntKind.u64.wrap which).tmod 6) = 3 ∨ IntKind.i64.wrap ((IntKind.u64.wrap which).tmod 6) = 4 ∨ IntKind.i64.wrap ((IntKind.u64.wrap which).tmod 6) = 5 := by omega
  rcases hq with h | h | h | h | h | h
  · exact x_int32 n u which n0 n1 u0 u1 h
  · exact x_sint32 n u which n0 n1 u0 u1 h
  · exact x_int64 n u which n0 n1 u0 u1 h
  · exact x_sint64 n u which n0 n1 u0 u1 h
  · exact x_uint32 n u which n0 n1 u0 u1 h
  · exact x_uint64 n u which n0 n1 u0 u1 h

theorem own : ownKnob Tryd.prog.godebug = none := by kernel_rfl
theorem tables : Tables Tryd.prog gl cfD := fun f d h => all_look codes_ok f d h
theorem tab0 : g_tab0 = ((List.range 256).map fun c => (firstT c : Int)).map (V.int .u8) := by kernel_rfl
theorem tab1 : g_tab1 = (((List.range 16).map fun i => ((accLo i : Int), (accHi i : Int))).flatMap fun z => [z.1, z.2]).map (V.int .u8) := by kernel_rfl
def deb : List Int := [0, 1, 56, 2, 57, 49, 28, 3, 61, 58, 42, 50, 38, 29, 17, 4, 62, 47, 59, 36, 45, 43, 51, 22, 53, 39, 33, 30, 24, 18, 12, 5, 63, 55, 48, 27, 60, 41, 37, 16, 46, 35, 44, 21, 52, 32, 23, 11, 54, 26, 40, 15, 34, 20, 31, 10, 25, 14, 19, 9, 13, 8, 7, 6]
theorem tab2 : g_tab2 = deb.map (V.int .u8) := by kernel_rfl
theorem first_eq : Go.Pinned.utf8First = tabData .u8 ((List.range 256).map fun c => (firstT c : Int)) := by kernel_rfl
theorem laid_gr {W : World} (h : laidMetH Tryd.prog Rows.pvalidNumbersRow.laid W) : GR gl (start W) := by
  rw [MakeChecks.laidMetH_plain _ _ _ (by kernel_rfl)] at h
  have v2 : VarReads Tryd.prog W "math/bits.deBruijn64tab" (tabData .u8 deb) := laidMet.reads h (.head _)
  have v1 : VarReads Tryd.prog W "unicode/utf8.acceptRanges" (.agg (((List.range 16).map fun i => ((accLo i : Int), (accHi i : Int))).map fun z => .agg ([z.1, z.2].map fun z => .lit (.int .u8 z)))) := laidMet.reads h (.tail _ (.head _))
  have v0 : VarReads Tryd.prog W "unicode/utf8.first" (tabData .u8 ((List.range 256).map fun c => (firstT c : Int))) := by
    rw [← first_eq]; exact laidMet.reads h (.tail _ (.tail _ (.head _)))
  have u5 : Tryd.prog.underlying 5 = some (.int .u8) := Tryd.underlying5
  have c5 : Tryd.prog.cellsOf 5 = 1 := by kernel_rfl
  refine gr_of fun g cs hg => ?_
  unfold gl at hg
  cases e0 : Nat.beq g 0 with
  | true =>
    rw [e0] at hg
    obtain rfl := Nat.eq_of_beq_eq_true e0
    obtain rfl := Option.some.inj hg
    exact gr_ints tab0 (tab_cells v0 (by kernel_rfl) (by kernel_rfl) Tryd.underlying165 u5 c5 (by kernel_rfl))
  | false =>
    rw [e0] at hg
    cases e1 : Nat.beq g 1 with
    | true =>
      rw [e1] at hg
      obtain rfl := Nat.eq_of_beq_eq_true e1
      obtain rfl := Option.some.inj hg
      refine gr_ints tab1 (tab2_cells v1 (by kernel_rfl) (by kernel_rfl) Tryd.underlying168 Tryd.underlying167 ?_ rfl (by kernel_rfl) (by kernel_rfl))
      intro i f hf
      rcases i with _ | _ | i
      · simp at hf; subst hf; exact ⟨u5, rfl, c5⟩
      · simp at hf; subst hf; exact ⟨u5, rfl, c5⟩
      · simp at hf
    | false =>
      rw [e1] at hg
      cases e6 : Nat.beq g 6 with
      | true =>
        rw [e6] at hg
        obtain rfl := Nat.eq_of_beq_eq_true e6
        obtain rfl := Option.some.inj hg
        exact gr_ints tab2 (tab_cells v2 (by kernel_rfl) (by kernel_rfl) Tryd.underlying197 u5 c5 (by kernel_rfl))
      | false => rw [e6] at hg; cases hg

section
variable {H : Type} {enc : TypeId × Value → H} {P : Program}
/-- the row's last step, where of the world behind the call 'Below' alone is known -/
theorem post_of_below {f : Func} {s : ChangeSpec} {apart fresh handsOn again : Bool} {W W' : World} {args : Array Value} {v : Value} {ds gs : List (DataW H)} {before pa pv : List MemPlace}
    (hW : DataW.Whole enc P f.params.toList s.vars apart W args.toList ds gs before)
    (hres : ∀ (b : Nat) (sp : Nat → Bool) (hd : Bool), DataW.TrodAll enc P W' b sp hd f.resultTypes.toList (v.resultList f.resultTypes.size) (s.fn H (ds ++ gs)).results [])
    (hargs : ∀ sp : Nat → Bool, (∀ p ∈ before, sp p.block = true) → DataW.TrodAll enc P W' 0 sp true f.params.toList args.toList (s.fn H (ds ++ gs)).args pa)
    (hvars : ∀ sp : Nat → Bool, (∀ p ∈ before, sp p.block = true) → DataW.TrodVars enc P W' sp s.vars (s.fn H (ds ++ gs)).vars pv)
    (hps : before = pa ++ pv) (hb : Below W.heap.size W W')
    (hok : ∀ (j : Nat) (t : TypeId) (r : Value), f.resultTypes[j]? = some t → (v.resultList f.resultTypes.size)[j]? = some r → Value.okWide P W' .any 0 t r) :
    s.post enc P f apart fresh handsOn again W args v W' := by
  have hlt : ∀ p ∈ before, p.block < W.heap.size := fun p hp => hW.lt p hp
  have hold : ∀ p ∈ before, (fun b => decide (b < W.heap.size)) p.block = true := fun p hp => by simpa using hlt p hp
  refine ⟨ds, gs, before, [], pa, pv, hW, hres _ _ _, hargs _ hold, hvars _ hold, World.keptBut_mono (fun p hp => ⟨hp, ?_⟩) (hb.frame (· ∈ before)), fun _ => ?_⟩
  · rw [hps, List.mem_append] at hp
    exact Or.inr hp
  · obtain ⟨_, _, _, _, _, hz, hn⟩ := hW
    refine ⟨hok, _, _, ([] ++ pa) ++ pv, ⟨[] ++ pa, pv, trodAll_append (hargs _ (fun _ _ => rfl)) (hres _ _ _), hvars _ (fun _ _ => rfl), rfl, ?_, ?_⟩, ?_⟩
    · intro b off hp
      have hin : MemPlace.cell b off ∈ before := by rw [hps]; simpa using hp
      rw [hb.frozen (hlt _ hin)]
      exact hz b off hin
    · intro ha
      have := hn ha
      rw [hps] at this
      simpa using this
    · intro p hp _
      rw [hps]
      simpa using hp
end
theorem wf_i64 {n : Int} (h : (Lit.int .i64 n).wf = true) : -9223372036854775808 ≤ n ∧ n ≤ 9223372036854775807 := by
  simpa [Lit.wf, IntKind.min, IntKind.max, IntKind.signed, IntKind.bits] using h
theorem wf_u64 {n : Int} (h : (Lit.int .u64 n).wf = true) : 0 ≤ n ∧ n ≤ 18446744073709551615 := by
  simpa [Lit.wf, IntKind.min, IntKind.max, IntKind.signed, IntKind.bits] using h

set_option maxRecDepth 100000 in
theorem lifted (os : Os) (started : os.Started) (H : Type) (enc : TypeId × Value → H) :
    ReturnsInHanded {} Tryd.checked os 3 .any (fun w args => (Rows.pvalidNumbersSpec.pre enc Tryd.prog Tryd.f3 Rows.pvalidNumbersRow.domain false w args ∧ laidMetH Tryd.prog Rows.pvalidNumbersRow.laid w) ∧ sizedMet enc Tryd.prog Tryd.f3 (OpenSpec.ofChange Rows.pvalidNumbersSpec) false w args)
      (Rows.pvalidNumbersSpec.post enc Tryd.prog Tryd.f3 false true false false) := by
  refine returnsInHanded_of_change_and (C := Tryd.checked) (X := fun w _ => laidMetH Tryd.prog Rows.pvalidNumbersRow.laid w) (fun _ _ _ hh h => h.of_heap hh) own started (by kernel_rfl) Tryd.func3
    (ChangeSpec.witness_shaped (enc := enc) (C := Tryd.checked) (os := os) (X := fun w _ => laidMetH Tryd.prog Rows.pvalidNumbersRow.laid w) false (World.laidAll Tryd.prog os Rows.pvalidNumbersRow.laid) #[.int .i64 0, .int .u64 0, .int .i64 0] 8 (World.laidAll_os _ _ _)
      (World.shaped_of_ZipB (by kernel_rfl) (by kernel_rfl)) (by kernel_rfl) (by kernel_rfl) (by kernel_rfl)
      (by rw [MakeChecks.laidMetH_plain _ _ _ (by kernel_rfl)]; exact laidMet_laidAll _ (by kernel_rfl) (by kernel_rfl))) ?_
  intro W base args ds gs before hval0 hW hc _ hL _
  have hval : ∀ (j : Nat) t v, Tryd.f3.params[j]? = some t → args[j]? = some v → Value.okWide Tryd.prog W .any base t v := hval0
  have hW' := hW
  obtain ⟨p, q, hA0, hV, rfl, _, _⟩ := hW
  have hA : DataW.TrodAll enc Tryd.prog W 0 (fun _ => true) true Tryd.f3.params.toList args.toList ds p := hA0
  rw [Tryd.params3] at hA hval
  obtain ⟨v0, v1, v2, d0, d1, d2, p0, p1, p2, rfl, rfl, rfl, h0, h1, h2⟩ := trodAll_three hA
  obtain ⟨rfl, rfl⟩ := trodVars_none hV
  obtain ⟨x0, rfl, rfl, rfl, w0⟩ := open_int Tryd.underlying2 (hval 0 2 v0 rfl rfl) h0
  obtain ⟨x1, rfl, rfl, rfl, w1⟩ := open_int Tryd.underlying22 (hval 1 22 v1 rfl rfl) h1
  obtain ⟨x2, rfl, rfl, rfl, w2⟩ := open_int Tryd.underlying3 (hval 2 3 v2 rfl rfl) h2
  simp only [List.append_nil, List.nil_append] at hW'
  have fin := law_calls (P := Tryd.prog) (G := gl) (cf := cfD) (W := W) (f := n_law23_PvalidNumbers) (vs := [.int .i64 x0, .int .u64 x1, .int .i64 x2]) (args := #[.int .i64 x0, .int .u64 x1, .int .i64 x2]) tables (laid_gr hL)
    (args_cons (.pure (.int .i64 x0)) (args_cons (.pure (.int .u64 x1)) (args_cons (.pure (.int .i64 x2)) (args_nil _)))) Tryd.func3 (by kernel_rfl) (by kernel_rfl)
    (law_all x0 x1 x2 (wf_i64 w0).1 (wf_i64 w0).2 (wf_u64 w1).1 (wf_u64 w1).2 (wf_i64 w2).1 (wf_i64 w2).2)
  refine fin.mono fun e W' ⟨he, hb⟩ => ?_
  subst he
  exact ⟨_, rfl, post_of_below (pa := []) (pv := []) hW' (fun _ _ _ => trodAll_mk1 (shut_bool Tryd.underlying4 _)) (fun sp _ => trodAll_mk3 (shut_int Tryd.underlying2 w0) (shut_int Tryd.underlying22 w1) (shut_int Tryd.underlying3 w2)) (fun _ _ => rfl) rfl hb (ok_one (by kernel_rfl) rfl (okWide_bool_mk Tryd.underlying4 _))⟩

theorem row_holds : Rows.PvalidNumbersSaid :=
  OpenClaim.holds_of_wide 3 Tryd.f3 rfl rfl rfl rfl rfl rfl rfl ⟨rfl, rfl, rfl, rfl, rfl⟩ rfl rfl rfl rfl rfl (by kernel_rfl) Tryd.func3 (by kernel_rfl)
    (of_decide_eq_true (by kernel_rfl)) (by unfold Func.isWrapper; first | (rw [if_pos (by decide +kernel)]; kernel_rfl) | (rw [if_neg (by decide +kernel)]; exact ⟨rfl, rfl⟩))
    (fun os started H enc _ => lifted os started H enc)
theorem card_holds : Rows.PvalidNumbersCardSaid :=
  Claim7.holds_tied_plain_at .later [] [.data, .data, .pinned] true (true, "dc0b94506c25b6b471ef1cf4ca85befb8e402f1010a28bd1f7550c36f6df1140") true row_holds (fun _ h => by cases h) (by kernel_rfl) (fun _ h => by cases h) pvalidNumbers_row_tie rfl ⟨rfl, rfl⟩ (by kernel_rfl) rfl
    (fun f fn hf hfn => by
      obtain rfl : f = 3 := Option.some.inj ((show Tryd.prog.funcNamed "entrepot/entrepotlaw23.PvalidNumbers" = some 3 by kernel_rfl).symm.trans hf) |>.symm
      obtain rfl : fn = Tryd.f3 := (Option.some.inj (Tryd.func3.symm.trans hfn)).symm
      exact ⟨by kernel_rfl, fun j t ht => by
        rw [Tryd.params3] at ht
        have hm : t ∈ [2, 22, 3] := by simpa using Array.mem_of_getElem? ht
        have hall : ([2, 22, 3].all fun u => !Tryd.prog.wantsStandIn u) = true := by kernel_rfl
        exact (show Tryd.prog.wantsStandIn t = false by simpa using List.all_eq_true.1 hall t hm)⟩)
    (by kernel_rfl)
#print axioms card_holds
end Go.Proofs.YthpggdlhoegndaaDoor.LM
