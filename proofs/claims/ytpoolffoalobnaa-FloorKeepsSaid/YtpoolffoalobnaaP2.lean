/- Lemmas on the way to a statement of this seat: rules for walks, contracts of functions, and plain facts; each is proved, under the conditions that stand in it. -/
import Derived.Test.YtpoolffoalobnaaW13
set_option linter.all false
namespace Go.Proofs.FW
open Go Go.RowKit

def subsFrom : Int → List Sub → Bool
  | _, [] => true
  | last, s :: r => subOk s && decide (last < s.id) && subsFrom s.id r
def floorOk (l : List Sub) : Bool := subsFrom 0 l && decide (l.length ≤ 4)
def ofL (head : Int) (l : List Sub) : Int := l.foldl (fun h s => min h s.cursor) head
def gapFrom : Nat → List Sub → Nat
  | k, [] => k
  | k, s :: r => if s.id = (k : Int) + 1 then gapFrom (k + 1) r else k
def subZero : Sub := ⟨0, ⟨#[]⟩, ⟨#[]⟩, false, false, ⟨#[]⟩, 0⟩
def findU (l : List Sub) (id : Int) : Sub × Int := if floorOk l then (match l.find? (fun s => decide (s.id = id)) with | some s => (s, 0) | none => (subZero, 3)) else (subZero, 1)
def leaveL (l : List Sub) (id : Int) : List Sub × Int := if (findU l id).2 = 0 then (l.filter (fun s => !decide (s.id = id)), 0) else (l, (findU l id).2)
def addL (l : List Sub) (s : Sub) : List Sub × Int × Int :=
  if floorOk l && subOk s then (if 4 ≤ l.length then (l, 0, 7) else (l.take (gapFrom 0 l) ++ { s with id := (gapFrom 0 l : Int) + 1 } :: l.drop (gapFrom 0 l), (gapFrom 0 l : Int) + 1, 0)) else (l, 0, 1)

theorem subsFrom_iff : ∀ {last : Int} {l : List Sub}, subsFrom last l = true ↔ (∀ s ∈ l, subOk s = true) ∧ (∀ s ∈ l, last < s.id) ∧ l.Pairwise (fun a b => a.id < b.id)
  | last, [] => by simp [subsFrom]
  | last, s :: r => by
    unfold subsFrom
    rw [Bool.and_eq_true, Bool.and_eq_true, decide_eq_true_eq, subsFrom_iff, List.pairwise_cons]
    constructor
    · rintro ⟨⟨h1, h2⟩, h3, h4, h5⟩
      refine ⟨?_, ?_, h4, h5⟩
      · intro x hx; exact (List.mem_cons.1 hx).elim (fun e => e ▸ h1) (h3 x)
      · intro x hx; exact (List.mem_cons.1 hx).elim (fun e => e ▸ h2) (fun hx => Int.lt_trans h2 (h4 x hx))
    · rintro ⟨h1, h2, h3, h4⟩
      exact ⟨⟨h1 s (by simp), h2 s (by simp)⟩, fun x hx => h1 x (by simp [hx]), h3, h4⟩
theorem cmpI_lt {a b : Int} : cmpI a b < 0 ↔ a < b := by unfold cmpI; repeat' split
                                                         all_goals omega
theorem cmpI_zero {a b : Int} : cmpI a b = 0 ↔ a = b := by unfold cmpI; repeat' split
                                                           all_goals omega
theorem find_stops {l : List Sub} {t : Int} {i : Nat} (hp : l.Pairwise (fun a b => a.id < b.id)) (hs : Stops (fun x => cmpI x.id t) l i) :
    (hit (fun x => cmpI x.id t) l i = true → ∃ x, l[i]? = some x ∧ l.find? (fun s => decide (s.id = t)) = some x) ∧ (hit (fun x => cmpI x.id t) l i = false → l.find? (fun s => decide (s.id = t)) = none) := by
  have hlt : ∀ (a b : Nat) x y, a < b → l[a]? = some x → l[b]? = some y → x.id < y.id := by
    intro a b x y hab hx hy
    obtain ⟨ha, rfl⟩ := List.getElem?_eq_some_iff.1 hx
    obtain ⟨hb, rfl⟩ := List.getElem?_eq_some_iff.1 hy
    exact List.pairwise_iff_getElem.1 hp a b ha hb hab
  constructor
  · intro hh
    unfold hit at hh
    cases hx : l[i]? with
    | none => rw [hx] at hh; cases hh
    | some x =>
      rw [hx] at hh
      have hxt : x.id = t := cmpI_zero.1 (by simpa using hh)
      refine ⟨x, rfl, ?_⟩
      rw [List.find?_eq_some_iff_getElem]
      obtain ⟨hi, rfl⟩ := List.getElem?_eq_some_iff.1 hx
      refine ⟨by simpa using hxt, i, hi, rfl, fun j hj => ?_⟩
      have := hlt j i _ _ hj (List.getElem?_eq_getElem (by omega)) hx
      simp; omega
  · intro hh
    rw [List.find?_eq_none]
    intro y hy
    obtain ⟨j, hj⟩ := List.getElem?_of_mem hy
    simp only [decide_eq_true_eq]
    intro he
    rcases Nat.lt_or_ge j i with h | h
    · obtain ⟨z, hz⟩ : ∃ z, l[i - 1]? = some z := ⟨_, List.getElem?_eq_getElem (by have := hs.le; omega)⟩
      have h1 := cmpI_lt.1 (hs.low z (by omega) hz)
      rcases Nat.lt_or_ge j (i - 1) with h2 | h2
      · have := hlt j (i - 1) y z h2 hj hz; omega
      · have : j = i - 1 := by omega
        subst this; rw [hj] at hz; cases hz; omega
    · obtain ⟨z, hz⟩ : ∃ z, l[i]? = some z := ⟨_, List.getElem?_eq_getElem (by have := (List.getElem?_eq_some_iff.1 hj).1; omega)⟩
      have h1 := hs.high z hz
      have h3 : ¬ cmpI z.id t < 0 := by omega
      rw [cmpI_lt] at h3
      unfold hit at hh
      rw [hz] at hh
      have h4 : ¬ z.id = t := fun e => by have e' := cmpI_zero.2 e; simp [e'] at hh
      rcases Nat.lt_or_ge i j with h2 | h2
      · have := hlt i j z y h2 hz hj; omega
      · have : j = i := by omega
        subst this; rw [hj] at hz; cases hz; omega
theorem gapFrom_le : ∀ (k : Nat) (l : List Sub), k ≤ gapFrom k l ∧ gapFrom k l ≤ k + l.length
  | k, [] => by simp [gapFrom]
  | k, s :: r => by
    unfold gapFrom
    have := gapFrom_le (k + 1) r
    split
    · simp; omega
    · simp
end Go.Proofs.FW
