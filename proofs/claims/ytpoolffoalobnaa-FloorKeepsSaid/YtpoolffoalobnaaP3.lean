/- Lemmas on the way to a statement of this seat: rules for walks, contracts of functions, and plain facts; each is proved, under the conditions that stand in it. -/
import Derived.Test.YtpoolffoalobnaaP2
set_option linter.all false
namespace Go.Proofs.FW
open Go Go.RowKit

def idc (s : Sub) : Int × Int := (s.id, s.cursor)
theorem floorOk_iff {l : List Sub} : floorOk l = true ↔ ((∀ s ∈ l, subOk s = true) ∧ (∀ s ∈ l, 0 < s.id) ∧ l.Pairwise (fun a b => a.id < b.id)) ∧ l.length ≤ 4 := by
  unfold floorOk
  rw [Bool.and_eq_true, subsFrom_iff, decide_eq_true_eq]
theorem floorOk_sub {l l' : List Sub} (hs : l'.Sublist l) (h : floorOk l = true) : floorOk l' = true := by
  rw [floorOk_iff] at h ⊢
  obtain ⟨⟨h1, h2, h3⟩, h4⟩ := h
  exact ⟨⟨fun s hm => h1 s (hs.subset hm), fun s hm => h2 s (hs.subset hm), h3.sublist hs⟩, Nat.le_trans hs.length_le h4⟩
theorem find_of {l : List Sub} (hp : l.Pairwise (fun a b => a.id < b.id)) {s : Sub} (hs : s ∈ l) : l.find? (fun x => decide (x.id = s.id)) = some s := by
  induction l with
  | nil => cases hs
  | cons a r ih =>
    obtain ⟨h1, h2⟩ := List.pairwise_cons.1 hp
    rcases List.mem_cons.1 hs with rfl | hs
    · simp
    · have := h1 s hs
      rw [List.find?_cons_of_neg (by simp; omega)]
      exact ih h2 hs
theorem findU_of {l : List Sub} (h : floorOk l = true) {s : Sub} (hs : s ∈ l) : findU l s.id = (s, 0) := by
  unfold findU
  rw [if_pos h, find_of (floorOk_iff.1 h).1.2.2 hs]
theorem findU_err {l : List Sub} (h : floorOk l = true) (a : Int) : (findU l a).2 = if (l.map idc).any (fun p => decide (p.1 = a)) then 0 else 3 := by
  unfold findU
  rw [if_pos h]
  cases hf : l.find? (fun s => decide (s.id = a)) with
  | none =>
    rw [List.find?_eq_none] at hf
    rw [if_neg]
    rw [List.any_map]
    intro hh
    obtain ⟨x, hx, hxa⟩ := List.any_eq_true.1 hh
    exact hf x hx hxa
  | some x =>
    rw [if_pos]
    rw [List.any_map]
    exact List.any_eq_true.2 ⟨x, List.mem_of_find?_eq_some hf, by have := List.find?_some hf; exact this⟩
theorem leave_spec {l : List Sub} (h : floorOk l = true) (a : Int) :
    ((leaveL l a).2 = if (l.map idc).any (fun p => decide (p.1 = a)) then 0 else 3) ∧ floorOk (leaveL l a).1 = true ∧ (leaveL l a).1.map idc = (l.map idc).filter (fun p => !decide (p.1 = a)) ∧ (leaveL l a).1.length ≤ l.length := by
  have he := findU_err h a
  have hmf : ∀ l : List Sub, (l.filter (fun s => !decide (s.id = a))).map idc = (l.map idc).filter (fun p => !decide (p.1 = a)) := by
    intro l; rw [List.filter_map]; rfl
  unfold leaveL
  by_cases hz : (findU l a).2 = 0
  · rw [if_pos hz]
    refine ⟨by rw [← he, hz], floorOk_sub List.filter_sublist h, hmf l, List.length_filter_le _ _⟩
  · rw [if_neg hz]
    refine ⟨he, h, ?_, Nat.le_refl _⟩
    rw [he] at hz
    have hn : ¬ (l.map idc).any (fun p => decide (p.1 = a)) = true := fun hh => hz (by rw [if_pos hh])
    symm
    rw [List.filter_eq_self]
    intro p hp
    have : ¬ p.1 = a := fun e => hn (List.any_eq_true.2 ⟨p, hp, decide_eq_true e⟩)
    simp [this]
theorem gap_spec : ∀ (k : Nat) (l : List Sub), (∀ s ∈ l, (k : Int) < s.id) → l.Pairwise (fun a b => a.id < b.id) →
    (∀ x ∈ l.take (gapFrom k l - k), x.id < (gapFrom k l : Int) + 1) ∧ (∀ x ∈ l.drop (gapFrom k l - k), (gapFrom k l : Int) + 1 < x.id)
  | k, [], _, _ => by simp
  | k, s :: r, h1, h2 => by
    obtain ⟨h3, h4⟩ := List.pairwise_cons.1 h2
    unfold gapFrom
    by_cases hs : s.id = (k : Int) + 1
    · rw [if_pos hs]
      have hle := (gapFrom_le (k + 1) r).1
      have ih := gap_spec (k + 1) r (fun x hx => by have := h3 x hx; omega) h4
      obtain ⟨m, hm⟩ : ∃ m, gapFrom (k + 1) r = k + 1 + m := ⟨gapFrom (k + 1) r - (k + 1), by omega⟩
      rw [hm] at ih ⊢
      rw [show k + 1 + m - (k + 1) = m by omega] at ih
      rw [show k + 1 + m - k = m + 1 by omega, List.take_succ_cons, List.drop_succ_cons]
      refine ⟨fun x hx => ?_, ih.2⟩
      rcases List.mem_cons.1 hx with rfl | hx
      · omega
      · exact ih.1 x hx
    · rw [if_neg hs, Nat.sub_self]
      refine ⟨by simp, fun x hx => ?_⟩
      have hk := h1 s (by simp)
      rcases List.mem_cons.1 hx with rfl | hx
      · omega
      · have := h3 x hx; omega
theorem add_spec {l : List Sub} {s : Sub} (h : floorOk l = true) (hs : subOk s = true) :
    (4 ≤ l.length → addL l s = (l, 0, 7)) ∧ (l.length < 4 → ∃ l' id, addL l s = (l', id, 0) ∧ floorOk l' = true ∧ 1 ≤ id ∧ id ≤ 4 ∧ (∀ p ∈ l.map idc, p.1 ≠ id) ∧ (l'.map idc).Perm ((id, s.cursor) :: l.map idc) ∧ l'.length = l.length + 1) := by
  unfold addL
  rw [h, hs]
  simp only [Bool.and_self, if_true]
  refine ⟨fun h4 => by rw [if_pos h4], fun h4 => ?_⟩
  rw [if_neg (by omega)]
  obtain ⟨⟨h1, h2, h3⟩, h5⟩ := floorOk_iff.1 h
  have hg := gap_spec 0 l (fun x hx => by simpa using h2 x hx) h3
  have hgl := gapFrom_le 0 l
  rw [Nat.sub_zero] at hg
  obtain ⟨g, hgg⟩ : ∃ g, gapFrom 0 l = g := ⟨_, rfl⟩
  rw [hgg] at hg hgl ⊢
  have hall : ∀ x ∈ l, x.id ≠ (g : Int) + 1 := by
    intro x hx
    rw [← List.take_append_drop g l] at hx
    rcases List.mem_append.1 hx with hx | hx
    · have := hg.1 x hx; omega
    · have := hg.2 x hx; omega
  have hperm : (l.take g ++ ({ s with id := (g : Int) + 1 } : Sub) :: l.drop g).Perm (({ s with id := (g : Int) + 1 } : Sub) :: l) := by
    have := List.perm_middle (a := ({ s with id := (g : Int) + 1 } : Sub)) (l₁ := l.take g) (l₂ := l.drop g)
    rwa [List.take_append_drop] at this
  have hmem : ∀ x, x ∈ l.take g ++ ({ s with id := (g : Int) + 1 } : Sub) :: l.drop g ↔ x = { s with id := (g : Int) + 1 } ∨ x ∈ l := fun x => by
    rw [hperm.mem_iff, List.mem_cons]
  refine ⟨_, _, rfl, floorOk_iff.2 ⟨⟨fun x hx => ?_, fun x hx => ?_, ?_⟩, ?_⟩, by omega, by omega, fun p hp => ?_, hperm.map idc, ?_⟩
  · rcases (hmem x).1 hx with rfl | hx
    · exact hs
    · exact h1 x hx
  · rcases (hmem x).1 hx with rfl | hx
    · show 0 < (g : Int) + 1; omega
    · exact h2 x hx
  · have hsp := h3
    rw [← List.take_append_drop g l, List.pairwise_append] at hsp
    refine List.pairwise_append.2 ⟨hsp.1, List.pairwise_cons.2 ⟨fun x hx => hg.2 x hx, hsp.2.1⟩, fun x hx y hy => ?_⟩
    rcases List.mem_cons.1 hy with rfl | hy
    · exact hg.1 x hx
    · exact hsp.2.2 x hx y hy
  · rw [hperm.length_eq, List.length_cons]; omega
  · obtain ⟨x, hx, rfl⟩ := List.mem_map.1 hp
    exact hall x hx
  · rw [hperm.length_eq, List.length_cons]
/-- The least of them, and of one more. -/
theorem ofL_spec : ∀ (l : List Sub) (h : Int), ofL h l ≤ h ∧ (∀ s ∈ l, ofL h l ≤ s.cursor) ∧ (ofL h l = h ∨ ∃ s ∈ l, ofL h l = s.cursor)
  | [], h => ⟨Int.le_refl _, by simp, .inl rfl⟩
  | s :: r, h => by
    have ih := ofL_spec r (min h s.cursor)
    have e : ofL h (s :: r) = ofL (min h s.cursor) r := rfl
    rw [e]
    obtain ⟨i1, i2, i3⟩ := ih
    refine ⟨by omega, fun x hx => ?_, ?_⟩
    · rcases List.mem_cons.1 hx with rfl | hx
      · omega
      · exact i2 x hx
    · rcases i3 with i3 | ⟨x, hx, i3⟩
      · rcases Int.le_total h s.cursor with hle | hle
        · left; omega
        · right; exact ⟨s, by simp, by omega⟩
      · right; exact ⟨x, by simp [hx], i3⟩
theorem ofL_unique {l : List Sub} {h m : Int} (h1 : m ≤ h) (h2 : ∀ s ∈ l, m ≤ s.cursor) (h3 : m = h ∨ ∃ s ∈ l, m = s.cursor) : ofL h l = m := by
  obtain ⟨i1, i2, i3⟩ := ofL_spec l h
  rcases h3 with h3 | ⟨s, hs, h3⟩
  · rcases i3 with i3 | ⟨x, hx, i3⟩
    · omega
    · have := h2 x hx; omega
  · have := i2 s hs
    rcases i3 with i3 | ⟨x, hx, i3⟩
    · omega
    · have := h2 x hx; omega
theorem subOk_new {n : Int} (h : 0 ≤ n ∧ n ≤ 2147483647) : subOk ⟨0, ⟨#[]⟩, ⟨#[]⟩, false, false, ⟨#[]⟩, n⟩ = true := by
  obtain ⟨h1, h2⟩ := h
  unfold subOk
  simp only [h1, h2, decide_true, Bool.and_true]
  rfl
end Go.Proofs.FW
