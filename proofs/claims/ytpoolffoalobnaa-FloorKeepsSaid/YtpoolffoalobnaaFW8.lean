/- Lemmas on the way to a statement of this seat: rules for walks, contracts of functions, and plain facts; each is proved, under the conditions that stand in it. -/
import Derived.Test.YtpoolffoalobnaaFW7
set_option linter.all false
namespace Go.Proofs.FW
open Go Go.RowKit
/-- A function value that, called with this one struct, answers b; nothing that there was is written. -/
def CbB (P : Program) (f : Value) (H : Mem) (arg : Value) (b : Bool) : Prop :=
  ∃ k caps, f = .func (.func k) #[] caps ∧ (∃ fn, P.funcs[k]? = some fn ∧ fn.body.isNone = false ∧ (fn.name == "runtime.NumGoroutine") = false) ∧
    ∀ w, In H w → Calls P k (arg :: caps.toList).toArray w fun e w' => ∃ v, e = .returned v ∧ v = .bool b ∧ St w H H w'
/-- The same, two arguments, and a number. -/
def CbI (P : Program) (f : Value) (H : Mem) (arg arg' : Value) (n : Int) : Prop :=
  ∃ k caps, f = .func (.func k) #[] caps ∧ (∃ fn, P.funcs[k]? = some fn ∧ fn.body.isNone = false ∧ (fn.name == "runtime.NumGoroutine") = false) ∧
    ∀ w, In H w → Calls P k (arg :: arg' :: caps.toList).toArray w fun e w' => ∃ v, e = .returned v ∧ v = .int .i64 n ∧ St w H H w'
section
variable {P : Program} {ops : Array Oper} {rest : List Oper} {ρ : Env} {w : World} {Q : Env → World → Prop} {d : Option Tmp} {ty : TypeId} {pos : String} {af : Array Edge} {v : Value}
theorem r_cbB {x y : Operand} {tt : Array TypeId} {f arg : Value} {H H0 : Mem} {w0 : World} {b : Bool} (hx : ev ρ x = f) (hy : ev ρ y = arg) (hs : St w0 H0 H w) (hc : CbB P f H arg b)
    (h : ∀ w', St w H H w' → St w0 H0 H w' → Q (put ρ d (.bool b)) w') :
    ost P (.call { callee := .value x, args := #[y], argTypes := tt }) ty d ρ w Q := by
  obtain ⟨k, caps, rfl, ⟨fn, h1, h2, h3⟩, hk⟩ := hc
  refine r_call h1 h2 h3 hx (as := arg :: caps.toList) (by simp [hy]) (hk w hs.mem) fun v w' hr => ?_
  obtain ⟨rfl, hr⟩ := hr
  exact h w' hr (hs.call hr)
theorem r_cbI {x y z : Operand} {tt : Array TypeId} {f arg arg' : Value} {H H0 : Mem} {w0 : World} {n : Int} (hx : ev ρ x = f) (hy : ev ρ y = arg) (hz : ev ρ z = arg') (hs : St w0 H0 H w) (hc : CbI P f H arg arg' n)
    (h : ∀ w', St w H H w' → St w0 H0 H w' → Q (put ρ d (.int .i64 n)) w') :
    ost P (.call { callee := .value x, args := #[y, z], argTypes := tt }) ty d ρ w Q := by
  obtain ⟨k, caps, rfl, ⟨fn, h1, h2, h3⟩, hk⟩ := hc
  refine r_call h1 h2 h3 hx (as := arg :: arg' :: caps.toList) (by simp [hy, hz]) (hk w hs.mem) fun v w' hr => ?_
  obtain ⟨rfl, hr⟩ := hr
  exact h w' hr (hs.call hr)
theorem a_loadR {α : Type} {enc : α → List Value} {t : TypeId} {x : Operand} {b o : Nat} {u : α} {H H0 : Mem} {w0 : World} [c : Shp P t true (enc u).length] (hs : St w0 H0 H w) (hc : ∀ (j : Nat) c, (enc u)[j]? = some c → H b (o + j) = some c) (hx : ev ρ x = .pointer (some ⟨b, o, none⟩)) : At P ty (.load t x) ρ w (.agg (enc u).toArray) :=
  a_loadN hx fun j v hj => hs.mem _ _ _ (hc j v hj)
end
def posOf {α : Type} (p : α → Bool) (xs : List α) : Int := match xs.findIdx? p with | some i => i | none => -1
theorem posOf_none {α : Type} {p : α → Bool} {xs : List α} (h : ∀ (j : Nat) x, xs[j]? = some x → p x = false) : posOf p xs = -1 := by
  unfold posOf
  have : xs.findIdx? p = none := by
    rw [List.findIdx?_eq_none_iff]
    intro x hx
    obtain ⟨j, hj⟩ := List.getElem?_of_mem hx
    exact h j x hj
  rw [this]
theorem posOf_some {α : Type} {p : α → Bool} {xs : List α} {k : Nat} {x : α} (hx : xs[k]? = some x) (hp : p x = true) (h : ∀ (j : Nat) y, j < k → xs[j]? = some y → p y = false) : posOf p xs = k := by
  unfold posOf
  have : xs.findIdx? p = some k := by
    rw [List.findIdx?_eq_some_iff_getElem]
    obtain ⟨hk, rfl⟩ := List.getElem?_eq_some_iff.1 hx
    exact ⟨hk, hp, fun j hj => by simpa using h j _ hj (List.getElem?_eq_getElem (by omega))⟩
  rw [this]

/-! the program's structs, as data -/
structure Pair where
  k : ByteArray
  v : ByteArray
structure Note where
  kind : Int
  key : ByteArray
  value : ByteArray
  n : Nat
structure Sub where
  id : Int
  lo : ByteArray
  hi : ByteArray
  to : Bool
  live : Bool
  next : ByteArray
  cursor : Int
structure Chg where
  seq : Int
  key : ByteArray
  had : Bool
  before : ByteArray
  has : Bool
  after : ByteArray
def encU (s : Sub) : List Value := [.int .i64 s.id, .string s.lo, .string s.hi, .bool s.to, .bool s.live, .string s.next, .int .i64 s.cursor]
theorem encU_len (s : Sub) : (encU s).length = 7 := rfl
def encC (s : Chg) : List Value := [.int .i64 s.seq, .string s.key, .bool s.had, .string s.before, .bool s.has, .string s.after]
theorem encC_len (s : Chg) : (encC s).length = 6 := rfl
def encP (p : Pair) : List Value := [.string p.k, .string p.v]
def encN (x : Note) : List Value := [.int .i64 x.kind, .string x.key, .string x.value, .int .u64 (x.n : Int)]
theorem encP_len (p : Pair) : (encP p).length = 2 := rfl
theorem encN_len (p : Note) : (encN p).length = 4 := rfl
def encS (s : ByteArray) : List Value := [.string s]
theorem encS_len (s : ByteArray) : (encS s).length = 1 := rfl
end Go.Proofs.FW
