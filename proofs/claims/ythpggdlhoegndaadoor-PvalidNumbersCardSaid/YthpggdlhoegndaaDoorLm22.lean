/-
  ONE OPERATION, on: texts and lists of bytes.
-/
import Derived.Test.YthpggdlhoegndaaDoorLm21
set_option linter.all false
namespace Go.Proofs.YthpggdlhoegndaaDoor.LM
open Go

section
variable {P : Program} {G : Nat → Option (List V)} {k : Ctx} {cf : Cfg} {ev : Ev} {s s' : St} {out : Out}

theorem did_bytes {d : Option Nat} {v : V} {x : Value} {src dst e : TypeId} (hsrc : P.underlying src = some .string) (hdst : P.underlying dst = some (.slice e)) (he8 : P.underlying e = some (.int .u8)) (hs : At k s) (hv : VR k v x)
    (he : exec1 (plan cf ev d (.conv .bytes) [v]) s = some (out, s')) : Did P k s' out ((vS (convert src dst x)).run P k.w) := by
  cases v <;> first
    | exact dead he rfl
    | skip
  rename_i l
  obtain ⟨r, hr, rfl, rfl⟩ := exec_ok1 (v := some (.slice (l.map ofByte) false)) he
  simp only [Option.some.injEq] at hr; subst hr
  obtain ⟨b, rfl, hb⟩ := str_inv hv
  have hrun := run_bytes_of_string (P := P) k.w src dst e b hsrc hdst he8
  have hsz := str_get hb
  have hge := grownCap_ge k.w b.size 0 e
  generalize grownCap k.w b.size 0 e = cap at hrun hge
  have hk1 := ok_drew hs.ok
  have hlen : (l.map ofByte).length = b.size := by rw [List.length_map, hsz]
  have hat : ∀ (i : Nat) (c : UInt8), l[i]? = some c → (bytesRow b cap)[i]? = some (.int .u8 c.toNat) := by
    intro i c hi
    have hlt : i < b.data.size := by
      have := (List.getElem?_eq_some_iff.1 hi).1
      rw [← hb, Array.length_toList] at this; exact this
    rw [bytesRow_at b cap i hlt]
    have : b.data[i] = c := by
      have h2 : b.data.toList[i]? = some c := by rw [hb]; exact hi
      have h3 : b.data[i]? = some c := by simpa using h2
      exact (Array.getElem?_eq_some_iff.1 h3).2
    rw [this]
  refine did_step (k' := k.drew.grow (bytesRow b cap) e ((bytesRow b cap).size, (bytesRow b cap).size + 1)) (x := .slice (some ⟨k.w.heap.size, 0, none⟩) b.size cap) ⟨(ext_drew k).trans (ext_grow _ _ _), ok_grow hk1 _ _ _⟩ hs.lo hs.h (vS_run hrun) (.pure ?_)
  have key : PR (k.drew.grow (bytesRow b cap) e ((bytesRow b cap).size, (bytesRow b cap).size + 1)).C (.slice (l.map ofByte) false) (.slice (some ⟨k.w.heap.size, 0, none⟩) (l.map ofByte).length cap) := by
    refine .slice (sz := 1) (b := k.w.heap.size) (o := 0) (vals := fun n => (bytesRow b cap).getD n .nilIface) (by omega) (fun h => by cases h) (fun _ => rfl) (fun i v hi => ?_) (fun i v j u hi hj => ?_) (fun i v j u hi hj => ?_)
    · simp only [List.getElem?_map, Option.map_eq_some_iff] at hi
      obtain ⟨c, hc, rfl⟩ := hi; rfl
    · simp only [List.getElem?_map, Option.map_eq_some_iff] at hi
      obtain ⟨c, hc, rfl⟩ := hi
      cases j with
      | zero =>
        simp only [Nat.mul_one, Nat.add_zero, Nat.zero_add, arr_getD (hat i c hc)]
        exact C_grow_new (k := k.drew) (hat i c hc)
      | succ j => simp [ofByte, V.cells] at hj
    · simp only [List.getElem?_map, Option.map_eq_some_iff] at hi
      obtain ⟨c, hc, rfl⟩ := hi
      cases j with
      | zero =>
        simp only [ofByte, V.cells, List.getElem?_cons_zero, Option.some.injEq] at hj; subst hj
        simp only [Nat.mul_one, Nat.add_zero, arr_getD (hat i c hc)]
        exact .int _ _
      | succ j => simp [ofByte, V.cells] at hj
  rw [hlen] at key
  exact key

/-! ### bytes as a text -/
theorem byteOf_some {v : V} {b : UInt8} (h : byteOf v = some b) : ∃ n, v = .int .u8 n ∧ b = UInt8.ofNat n.toNat := by
  unfold byteOf at h
  split at h
  · rename_i n; simp only [Option.some.injEq] at h; exact ⟨n, rfl, h.symm⟩
  · cases h
theorem bytes_of : ∀ {xs : List V} {l : List UInt8}, mapO byteOf xs = some l → ∃ ns : List Int, xs = ns.map (V.int .u8) ∧ l = ns.map fun n => UInt8.ofNat n.toNat
  | [], l, h => by simp only [mapO, Option.some.injEq] at h; subst h; exact ⟨[], rfl, rfl⟩
  | v :: xs, l, h => by
    simp only [mapO] at h
    split at h
    · rename_i b hb
      split at h
      · rename_i l' hl
        simp only [Option.some.injEq] at h; subst h
        obtain ⟨n, rfl, rfl⟩ := byteOf_some hb
        obtain ⟨ns, rfl, rfl⟩ := bytes_of hl
        exact ⟨n :: ns, rfl, rfl⟩
      · cases h
    · cases h
theorem foldl_push : ∀ (ns : List Int) (r : ByteArray), (ns.foldl (fun r n => r.push (UInt8.ofNat n.toNat)) r).data.toList = r.data.toList ++ ns.map fun n => UInt8.ofNat n.toNat
  | [], r => by simp
  | n :: ns, r => by
    simp only [List.foldl_cons]
    rw [foldl_push ns]
    simp [ByteArray.push]
theorem text_run {src dst e : TypeId} {xs : List V} {l : List UInt8} {news : List Value} {a : Option Addr} {cap : Nat} (hsrc : P.underlying src = some (.slice e)) (he8 : P.underlying e = some (.int .u8)) (hdst : P.underlying dst = some .string)
    (hb : mapO byteOf xs = some l) (h0 : 0 < xs.length → ∃ ad, a = some ad) (src0 : Src P k (.slice a xs.length cap) xs 1 news) :
    ∃ b : ByteArray, (convert src dst (.slice a xs.length cap)).run P k.w = .ok (.string b) k.w ∧ b.data.toList = l := by
  rw [run_convert_bytes_string k.w src dst e a xs.length cap hsrc he8 hdst]
  obtain ⟨ns, rfl, rfl⟩ := bytes_of hb
  have hnews : news = ns.map (Value.int .u8) := by
    apply List.ext_getElem?
    intro i
    by_cases hi : i < ns.length
    · have hxi : (ns.map (V.int .u8))[i]? = some (.int .u8 ns[i]) := by simp [hi]
      obtain ⟨y, a1, a2, a3⟩ := src0.el i _ 0 _ hxi rfl
      rw [Nat.mul_one, Nat.add_zero] at a1
      cases a2
      have : news[i]? = some (.int .u8 ns[i]) := by simpa using a1
      rw [this]; simp [hi]
    · have hl := src0.size
      rw [List.getElem?_eq_none (by rw [hl]; simp; omega), List.getElem?_eq_none (by simp; omega)]
  cases a with
  | none =>
    have hz : ns = [] := by
      rcases Nat.eq_zero_or_pos ns.length with h | h
      · exact List.eq_nil_of_length_eq_zero h
      · obtain ⟨ad, h1⟩ := h0 (by simpa using h); cases h1
    subst hz
    exact ⟨.empty, by simp [Conv.bytesToString], rfl⟩
  | some ad =>
    have hc := src0.cells k.w rfl
    simp only [Builtin.firstCells, Nat.mul_one, hnews] at hc
    exact ⟨_, run_bytesToString k.w ad _ cap ns hc, by rw [foldl_push]; rfl⟩
theorem all_bytes {xs : List V} {l : List UInt8} (h : mapO byteOf xs = some l) : (xs.all fun y => Nat.beq y.cells.length 1 && y.pure) = true := by
  obtain ⟨ns, rfl, _⟩ := bytes_of h
  refine List.all_eq_true.2 fun v hv => ?_
  obtain ⟨n, _, rfl⟩ := List.mem_map.1 hv
  rfl
theorem did_text {d : Option Nat} {v : V} {x : Value} {src dst e : TypeId} (hsrc : P.underlying src = some (.slice e)) (he8 : P.underlying e = some (.int .u8)) (hdst : P.underlying dst = some .string) (hs : At k s) (hv : VR k v x)
    (he : exec1 (plan cf ev d (.conv .text) [v]) s = some (out, s')) : Did P k s' out ((vS (convert src dst x)).run P k.w) := by
  cases v <;> first
    | exact dead he rfl
    | skip
  · rename_i i n
    obtain ⟨h1, rfl⟩ := exec_hpR he
    rw [← hs.h] at h1
    split at h1
    · rename_i xs hrow
      split at h1
      · rename_i l hl
        simp only [Option.some.injEq] at h1; subst h1
        obtain ⟨news, src0⟩ := src_of (P := P) hs.ok hrow hv (all_bytes hl)
        simp only [rowOf] at hrow
        split at hrow
        · rename_i xs' sz' fz hi
          obtain ⟨hb, hrow⟩ := bif_yes hrow
          simp only [Option.some.injEq] at hrow; subst hrow
          obtain ⟨arr, ty, fr, cap, a1, a2, rfl, a4, a5, a6, a7, a8⟩ := row_at hs.ok hi hv (beq_nat hb).symm
          obtain ⟨b, hr, hb⟩ := text_run hsrc he8 hdst hl (fun _ => ⟨_, rfl⟩) src0
          rw [vS_run hr]
          exact did_val hs.ok hs.lo hs.h (.pure (.str hb))
        · cases hrow
      · cases h1
    · cases h1
  · rename_i xs full
    obtain ⟨r, hr, rfl, rfl⟩ := exec_ok1 (v := match mapO byteOf xs with | some s => some (.str s) | Option.none => Option.none) he
    split at hr
    · rename_i l hl
      simp only [Option.some.injEq] at hr; subst hr
      obtain ⟨news, src0⟩ := src_of (P := P) (vy := .slice xs full) hs.ok rfl hv (all_bytes hl)
      have hp := slice_inv hv
      cases hp with
      | slice hcap hf ha hsl hc hp =>
        obtain ⟨b, hr, hb⟩ := text_run hsrc he8 hdst hl (fun h => ⟨_, ha h⟩) src0
        rw [vS_run hr]
        exact did_val hs.ok hs.lo hs.h (.pure (.str hb))
    · cases hr

/-! ### a list of bytes taken as itself: its memory gets a mark -/
theorem did_same {d : Option Nat} {v : V} {x : Value} {src dst e e2 : TypeId} (hsrc : P.underlying src = some (.slice e2)) (hdst : P.underlying dst = some (.slice e)) (he8 : P.underlying e = some (.int .u8)) (hsd : src = dst) (hs : At k s) (hv : VR k v x)
    (he : exec1 (plan cf ev d (.conv .same) [v]) s = some (out, s')) : Did P k s' out ((vS (convert src dst x)).run P k.w) := by
  cases v <;> first
    | exact dead he rfl
    | skip
  rename_i i n
  have he' : exec1 (bif Nat.beq n 0 then fail else .hpW fun h => match stillCell h (.row i n) with
    | some (v, h') => some (.val v, h')
    | Option.none => Option.none) s = some (out, s') := he
  rcases exec_any he' with ⟨_, he⟩ | ⟨h0, he⟩
  · exact dead he rfl
  obtain ⟨h', h1, rfl⟩ := exec_hpW he
  rw [← hs.h] at h1
  split at h1
  · rename_i w h2 e2
    simp only [Option.some.injEq, Prod.mk.injEq] at h1
    obtain ⟨rfl, rfl⟩ := h1
    simp only [stillCell] at e2
    split at e2
    · rename_i xs sz fz hi
      obtain ⟨hb, e2⟩ := bif_yes e2
      simp only [Option.some.injEq, Prod.mk.injEq] at e2
      obtain ⟨rfl, rfl⟩ := e2
      obtain ⟨s1, s2⟩ := still_row hs.ok hi (beq_nat hb) hv
      obtain ⟨arr, ty, fr, cap, a1, a2, hx, a4, a5, a6, a7, a8⟩ := row_at hs.ok hi hv (beq_nat hb).symm
      generalize hk1 : k.freeze i (.row xs sz true) (xs.length * sz) = k1 at s1 s2
      have w1 : k1.w = k.w := by rw [← hk1]; rfl
      have p1 : k1.pl = k.pl := by rw [← hk1]; rfl
      have g1 : k1.h = k.h.set i (.row xs sz true) := by rw [← hk1]; rfl
      have l1 : k1.lo = k.lo := by rw [← hk1]; rfl
      have hi1 : k1.h.get i = some (.row xs sz true) := by rw [g1]; exact HS.get_set_same hi
      let w' : World := k1.w.freeze { block := k1.pl (.o i), off := arr.size } 1
      have hlt : k1.pl (.o i) < k1.w.heap.size := s1.ok.place (.o i) _ hi1
      have hc1 : k1.w.heap[k1.pl (.o i)]? = some (.cells arr ty fr) := by rw [w1, p1]; exact a1
      have hheap : ∃ fr', w'.heap = k1.w.heap.setIfInBounds (k1.pl (.o i)) (.cells arr ty fr') := by
        refine ⟨if fr.1 == fr.2 then (arr.size, arr.size + 1) else (min fr.1 arr.size, max fr.2 (arr.size + 1)), ?_⟩
        show (World.freeze _ _ _).heap = _
        unfold World.freeze
        rw [if_neg (by decide)]
        apply Array.ext_getElem?
        intro j
        rw [Array.getElem?_modify, Array.getElem?_setIfInBounds]
        by_cases hj : k1.pl (.o i) = j
        · subst hj
          rw [if_pos rfl, if_pos rfl, if_pos hlt, hc1]
          rfl
        · rw [if_neg hj, if_neg hj]
      obtain ⟨fr', hheap⟩ := hheap
      have hcell : ∀ b o, w'.cell? ⟨b, o, none⟩ = k1.w.cell? ⟨b, o, none⟩ := by
        intro b o
        simp only [World.cell?, hheap]
        by_cases hb : k1.pl (.o i) = b
        · subst hb
          have e1 : (k1.w.heap.setIfInBounds (k1.pl (.o i)) (.cells arr ty fr'))[k1.pl (.o i)]? = some (.cells arr ty fr') := by simp [hlt]
          rw [e1, hc1]
        · rw [Array.getElem?_setIfInBounds_ne hb]
      let k2 : Ctx := { k1 with w := w' }
      have hput : Put k1 k2 (.o i) (.row xs sz true) (.row xs sz true) := by
        refine ⟨s1.ok, hi1, fun r => ?_, rfl, rfl, fun _ _ => rfl, fun b hb => ?_, ?_, fun _ _ _ => Iff.rfl, fun b o x h => ⟨h.1, (hcell b o).trans h.2⟩, fun v x hv => by cases v <;> exact hv⟩
        · by_cases hr : r = .o i
          · subst hr; rw [if_pos rfl]; exact hi1
          · rw [if_neg hr]; rfl
        · show w'.heap[b]? = _
          rw [hheap, Array.getElem?_setIfInBounds_ne (Ne.symm hb)]
        · show w'.heap.size = _
          rw [hheap]; simp
      obtain ⟨⟨arr', ty', fr0, cap', b1, b0, b2, b3, b4, b5⟩, b6, b7⟩ := s1.ok.at_ (.o i) _ hi1
      have st2 : Step k1 k2 := by
        refine ⟨hput.ext rfl rfl rfl, hput.keep ⟨⟨arr', ty', fr', cap', ?_, (fun h => by cases h), b2, b3, b4, fun j v m u hj hm => ?_⟩, b6, (fun h => by cases h)⟩⟩
        · show w'.heap[k1.pl (.o i)]? = _
          rw [hc1] at b1
          simp only [Option.some.injEq, Go.Obj.cells.injEq] at b1
          obtain ⟨rfl, rfl, _⟩ := b1
          rw [hheap]; simp [hlt]
        · obtain ⟨y, c1, c2, c3, c4⟩ := b5 j v m u hj hm
          exact ⟨y, c1, c2.mono hput.C, c3, c4⟩
      refine did_step (k' := k2) (x := x) (s1.trans st2) (l1.trans hs.lo) g1 (vS_run ?_) (.pure (s2.mono hput.C))
      have hbeq : (src == dst) = true := by rw [hsd]; exact beq_self_eq_true dst
      have hsh : k.w.shape? (k.pl (.o i)) = some (ty, arr.size) := by unfold World.shape?; rw [a1]
      subst hx
      have hw2 : k2.w = k.w.freeze { block := k.pl (.o i), off := arr.size } 1 := by show w' = _; rw [← w1, ← p1]
      rw [hw2]
      simp [convert, run_underlying hsrc, run_underlying hdst, run_underlying he8, hbeq, markStringish, hsh]
    · cases e2
  · cases h1
end
end Go.Proofs.YthpggdlhoegndaaDoor.LM
