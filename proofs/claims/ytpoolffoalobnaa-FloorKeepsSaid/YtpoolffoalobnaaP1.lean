/- Lemmas on the way to a statement of this seat: rules for walks, contracts of functions, and plain facts; each is proved, under the conditions that stand in it. -/
import Derived.Test.YtpoolffoalobnaaFW10
set_option linter.all false
namespace Go.Proofs.FW
open Go Go.RowKit

def risesBy {α : Type} (lt : α → α → Bool) : List α → Bool
  | a :: b :: l => lt a b && risesBy lt (b :: l)
  | _ => true
def okBy {α : Type} (ok : α → Bool) (lt : α → α → Bool) (l : List α) : Bool := l.all ok && risesBy lt l

section
variable {α : Type} {ok : α → Bool} {lt : α → α → Bool}
theorem risesBy_iff : ∀ {l : List α}, risesBy lt l = true ↔ ∀ (j : Nat) x y, l[j]? = some x → l[j + 1]? = some y → lt x y = true
  | [] => by simp [risesBy]
  | [a] => by simp [risesBy]
  | a :: b :: l => by
    unfold risesBy
    rw [Bool.and_eq_true, risesBy_iff]
    constructor
    · rintro ⟨h1, h2⟩ j x y hx hy
      cases j with
      | zero => simp at hx hy; subst hx hy; exact h1
      | succ j => exact h2 j x y (by simpa using hx) (by simpa using hy)
    · intro h
      exact ⟨h 0 a b rfl rfl, fun j x y hx hy => h (j + 1) x y (by simpa using hx) (by simpa using hy)⟩
/-- The first k of them. -/
structure OkTo (ok : α → Bool) (lt : α → α → Bool) (l : List α) (k : Nat) : Prop where
  one : ∀ (j : Nat) x, j < k → l[j]? = some x → ok x = true
  two : ∀ (j : Nat) x y, j + 1 < k → l[j]? = some x → l[j + 1]? = some y → lt x y = true
theorem OkTo.zero (l : List α) : OkTo ok lt l 0 := ⟨fun _ _ h => by omega, fun _ _ _ h => by omega⟩
theorem OkTo.succ {l : List α} {k : Nat} {x : α} (h : OkTo ok lt l k) (hx : l[k]? = some x) (h1 : ok x = true) (h2 : ∀ y, 0 < k → l[k - 1]? = some y → lt y x = true) : OkTo ok lt l (k + 1) := by
  refine ⟨fun j y hj hy => ?_, fun j y z hj hy hz => ?_⟩
  · rcases Nat.lt_or_ge j k with h3 | h3
    · exact h.one j y h3 hy
    · obtain rfl : j = k := by omega
      rw [hx] at hy; cases hy; exact h1
  · rcases Nat.lt_or_ge (j + 1) k with h3 | h3
    · exact h.two j y z h3 hy hz
    · obtain rfl : k = j + 1 := by omega
      rw [hx] at hz; cases hz
      exact h2 y (by omega) hy
theorem OkTo.all {l : List α} {k : Nat} (h : OkTo ok lt l k) (hk : l.length ≤ k) : okBy ok lt l = true := by
  unfold okBy
  rw [Bool.and_eq_true, List.all_eq_true, risesBy_iff]
  refine ⟨fun x hx => ?_, fun j x y hx hy => ?_⟩
  · obtain ⟨j, hj⟩ := List.getElem?_of_mem hx
    exact h.one j x (by have := (List.getElem?_eq_some_iff.1 hj).1; omega) hj
  · exact h.two j x y (by have := (List.getElem?_eq_some_iff.1 hy).1; omega) hx hy
theorem okBy_no1 {l : List α} {k : Nat} {x : α} (hx : l[k]? = some x) (h : ok x = false) : okBy ok lt l = false := by
  unfold okBy
  have : l.all ok = false := by rw [List.all_eq_false]; exact ⟨x, List.mem_of_getElem? hx, by simp [h]⟩
  rw [this]; rfl
theorem okBy_no2 {l : List α} {k : Nat} {x y : α} (hk : 0 < k) (hx : l[k - 1]? = some x) (hy : l[k]? = some y) (h : lt x y = false) : okBy ok lt l = false := by
  unfold okBy
  have : risesBy lt l = false := by
    cases hr : risesBy lt l with
    | false => rfl
    | true => have := risesBy_iff.1 hr (k - 1) x y hx (by rwa [Nat.sub_add_cancel hk]); rw [h] at this; cases this
  rw [this]; simp
theorem okBy_one {l : List α} (h : okBy ok lt l = true) : ∀ x ∈ l, ok x = true := by
  unfold okBy at h; rw [Bool.and_eq_true, List.all_eq_true] at h; exact h.1
theorem okBy_two {l : List α} (h : okBy ok lt l = true) : risesBy lt l = true := by
  unfold okBy at h; rw [Bool.and_eq_true] at h; exact h.2
end

def pOk (p : Pair) : Bool := decide (p.k.size ≤ 16) && decide (p.v.size ≤ 32)
def pLt (a b : Pair) : Bool := sLt a.k b.k
def pairsOk (l : List Pair) : Bool := okBy pOk pLt l
/-- note.Right -/
def nOk (x : Note) : Bool := decide (x.key.size ≤ 16) && decide (x.value.size ≤ 32) &&
  (if x.kind = 1 then decide (x.n = 0) else if x.kind = 2 then decide (x.n = 0) && decide (x.value = ⟨#[]⟩) else if x.kind = 3 then decide (x.value = ⟨#[]⟩) else false)
def nLt (a b : Note) : Bool := sLt a.key b.key
def notesOk (l : List Note) : Bool := okBy nOk nLt l
end Go.Proofs.FW
