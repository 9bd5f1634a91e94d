/-
  The model's values (api.Value) as a plain Lean type, and how they stand among the logical machine's values.
-/
import Derived.Test.YthpggdlhoegndaaDoorLm33
set_option linter.all false
namespace Go.Proofs.YthpggdlhoegndaaDoor.LM
open Go

abbrev Str := List UInt8
/-- a value: its cells; 'lf', 'kf': of the slices' spare room nothing is known (false) or that there is none -/
inductive G where
  | mk (kind : Int) (neg : Bool) (n0 n1 n2 n3 bits : Int) (text : Str) (list : List G) (lf : Bool) (keys : List Str) (kf : Bool)
namespace G
def kind : G → Int | mk k _ _ _ _ _ _ _ _ _ _ _ => k
def neg : G → Bool | mk _ x _ _ _ _ _ _ _ _ _ _ => x
def n0 : G → Int | mk _ _ x _ _ _ _ _ _ _ _ _ => x
def n1 : G → Int | mk _ _ _ x _ _ _ _ _ _ _ _ => x
def n2 : G → Int | mk _ _ _ _ x _ _ _ _ _ _ _ => x
def n3 : G → Int | mk _ _ _ _ _ x _ _ _ _ _ _ => x
def bits : G → Int | mk _ _ _ _ _ _ x _ _ _ _ _ => x
def text : G → Str | mk _ _ _ _ _ _ _ x _ _ _ _ => x
def list : G → List G | mk _ _ _ _ _ _ _ _ x _ _ _ => x
def lf : G → Bool | mk _ _ _ _ _ _ _ _ _ x _ _ => x
def keys : G → List Str | mk _ _ _ _ _ _ _ _ _ _ x _ => x
def kf : G → Bool | mk _ _ _ _ _ _ _ _ _ _ _ x => x
theorem eta (g : G) : mk g.kind g.neg g.n0 g.n1 g.n2 g.n3 g.bits g.text g.list g.lf g.keys g.kf = g := by cases g; rfl
theorem size_list (g : G) : SizeOf.sizeOf g.list < SizeOf.sizeOf g := by cases g; simp [list]; omega
/-- what holds of a value as soon as it holds of its elements holds of all -/
theorem ind {P : G → Prop} (h : ∀ g : G, (∀ x ∈ g.list, P x) → P g) (g : G) : P g := by
  suffices H : ∀ n, ∀ g : G, SizeOf.sizeOf g ≤ n → P g from H (SizeOf.sizeOf g) g (Nat.le_refl _)
  intro n
  induction n with
  | zero => intro g hg; have := size_list g; omega
  | succ n ih =>
    intro g hg
    refine h g fun x hx => ih x ?_
    have h1 := size_list g
    have h2 := List.sizeOf_lt_of_mem hx
    omega
end G
mutual
def encG : G → V
  | .mk k ng a b c d e t l lf ks kf => .agg [.int .i64 k, .bool ng, .int .u64 a, .int .u64 b, .int .u64 c, .int .u64 d, .int .u64 e, .str t, .slice (encL l) lf, .slice (ks.map V.str) kf]
def encL : List G → List V
  | [] => []
  | g :: r => encG g :: encL r
end
theorem encL_map : ∀ l : List G, encL l = l.map encG
  | [] => by simp [encL]
  | g :: r => by simp [encL, encL_map r]
theorem encG_eq (g : G) : encG g = .agg [.int .i64 g.kind, .bool g.neg, .int .u64 g.n0, .int .u64 g.n1, .int .u64 g.n2, .int .u64 g.n3, .int .u64 g.bits, .str g.text, .slice (g.list.map encG) g.lf, .slice (g.keys.map V.str) g.kf] := by
  cases g; simp [encG, encL_map, G.kind, G.neg, G.n0, G.n1, G.n2, G.n3, G.bits, G.text, G.list, G.lf, G.keys, G.kf]
theorem map_at {α : Type} (f : α → V) (l : List α) (k : Nat) (h : k < l.length) : (l.map f)[k]? = some (f l[k]) := by simp [h]
theorem map_len {α : Type} (f : α → V) (l : List α) : (l.map f).length = l.length := by simp
/-- a value as a call is handed it: of its slices' spare room nothing is known -/
def calmG (g : G) : V := .agg [.int .i64 g.kind, .bool g.neg, .int .u64 g.n0, .int .u64 g.n1, .int .u64 g.n2, .int .u64 g.n3, .int .u64 g.bits, .str g.text, .slice (g.list.map encG) false, .slice (g.keys.map V.str) false]
attribute [go_sem] encG_eq map_len map_at calmG
/-- numbers as they may be; no more than so many of anything; so deep at most -/
structure Rng (g : G) : Prop where
  k0 : -9223372036854775808 ≤ g.kind
  k1 : g.kind ≤ 9223372036854775807
  a0 : 0 ≤ g.n0
  a1 : g.n0 < 18446744073709551616
  b0 : 0 ≤ g.n1
  b1 : g.n1 < 18446744073709551616
  c0 : 0 ≤ g.n2
  c1 : g.n2 < 18446744073709551616
  d0 : 0 ≤ g.n3
  d1 : g.n3 < 18446744073709551616
  e0 : 0 ≤ g.bits
  e1 : g.bits < 18446744073709551616
  list : g.list.length ≤ 1000000
  keys : g.keys.length ≤ 1000000
  text : g.text.length ≤ 1000000
  each : ∀ s ∈ g.keys, s.length ≤ 1000000
def okG : Nat → G → Prop
  | 0, _ => False
  | d + 1, g => Rng g ∧ ∀ x ∈ g.list, okG d x
/-- a message's field -/
structure PF where
  name : Str
  type : Str
  number : Int
  opt : Bool
  rep : Bool
  map : Bool
def encF (f : PF) : V := .agg [.str f.name, .str f.type, .int .i64 f.number, .bool f.opt, .bool f.rep, .bool f.map]
/-- a message -/
structure PM where
  name : Str
  fields : List PF
  ff : Bool
  numbers : List Int
  nf : Bool
  names : List Str
  sf : Bool
def encM (m : PM) : V := .agg [.str m.name, .slice (m.fields.map encF) m.ff, .slice (m.numbers.map (V.int .i64)) m.nf, .slice (m.names.map V.str) m.sf]
def calmM (m : PM) : V := .agg [.str m.name, .slice (m.fields.map encF) false, .slice (m.numbers.map (V.int .i64)) false, .slice (m.names.map V.str) false]
attribute [go_sem] encF encM calmM
end Go.Proofs.YthpggdlhoegndaaDoor.LM
