/- Lemmas on the way to a statement of this seat: rules for walks, contracts of functions, and plain facts; each is proved, under the conditions that stand in it. -/
import Derived.Test.YtpoolffoalobnaaFW20
import Derived.Deep.Slices
import Derived.ChangeArms
set_option linter.all false
namespace Go.Proofs.FW
open Go Go.RowKit Go.ChangeShapes Go.WideShapes Go.Deep

/-- All that lies in a world, as memory. -/
def memOf (w : World) : Mem := fun b o => w.cell? ⟨b, o, none⟩
theorem in_memOf (w : World) : In (memOf w) w := fun _ _ _ h => h
theorem cell_spot {w : World} {a : Addr} {v : Value} (h : w.cell? a = some v) : a.spot = none := by
  unfold World.cell? at h
  split at h
  · cases hs : a.spot with
    | none => rfl
    | some s => rw [hs] at h; simp at h
  · cases h
theorem addr_eta {a : Addr} (h : a.spot = none) : a = ⟨a.block, a.off, none⟩ := by cases a; simp at h; simp [h]
theorem list_of {α : Type} {good : Nat → α → Prop} : ∀ (n : Nat), (∀ i, i < n → ∃ x, good i x) → ∃ l : List α, l.length = n ∧ ∀ i x, l[i]? = some x → good i x
  | 0, _ => ⟨[], rfl, by simp⟩
  | n + 1, h => by
    obtain ⟨l, h1, h2⟩ := list_of n fun i hi => h i (by omega)
    obtain ⟨x, hx⟩ := h n (by omega)
    refine ⟨l ++ [x], by simp [h1], fun i y hy => ?_⟩
    rcases Nat.lt_or_ge i n with hi | hi
    · rw [List.getElem?_append_left (by omega)] at hy; exact h2 i y hy
    · rw [List.getElem?_append_right (by omega)] at hy
      have : i - l.length = 0 := by
        have := (List.getElem?_eq_some_iff.1 hy).1; simp at this; omega
      rw [this] at hy
      obtain rfl : i = n := by omega
      simp at hy; subst hy; exact hx
theorem flat_at {α : Type} {enc : α → List Value} {sz : Nat} (he : ∀ x, (enc x).length = sz) (hpos : 0 < sz) : ∀ (xs : List α) (j : Nat) (c : Value), (xs.flatMap enc)[j]? = some c → ∃ x, xs[j / sz]? = some x ∧ (enc x)[j % sz]? = some c
  | [], j, c, h => by simp at h
  | x :: xs, j, c, h => by
    rw [List.flatMap_cons] at h
    rcases Nat.lt_or_ge j sz with hj | hj
    · rw [List.getElem?_append_left (by rw [he]; exact hj)] at h
      exact ⟨x, by rw [Nat.div_eq_of_lt hj]; rfl, by rw [Nat.mod_eq_of_lt hj]; exact h⟩
    · rw [List.getElem?_append_right (by rw [he]; exact hj), he] at h
      obtain ⟨y, h1, h2⟩ := flat_at he hpos xs (j - sz) c h
      have e : j = (j - sz) + sz := by omega
      refine ⟨y, ?_, ?_⟩
      · rw [e, Nat.add_div_right _ hpos]; exact h1
      · rw [e, Nat.add_mod_right]; exact h2
/-- An argument that is a slice: its elements. -/
theorem re_of_trod {α : Type} {enc' : α → List Value} {sz : Nat} {good : α → Prop} {H : Type} {enc : TypeId × Value → H} {P : Program} {w : World} {base : Nat} {sp : Nat → Bool} {held : Bool} {t e : TypeId} {v : Value} {d : DataW H} {ps : List MemPlace}
    (ht : P.underlying t = some (.slice e)) (hc : P.cellsOf e = sz) (hpos : 0 < sz) (he : ∀ x, (enc' x).length = sz) (h1 : ∀ x, ∀ c ∈ enc' x, c.oneCell' = true)
    (hel : ∀ (n : Nat) (cs : List Value) (y : DataW H × List MemPlace), DataW.trod enc P w base sp held n e cs = some y → ∃ u, cs = enc' u ∧ good u)
    (hv : v.cells.toList = [v]) (hspot : ∀ a len cap, v = .slice (some a) len cap → a.spot = none) (h : DataW.Trod enc P w base sp held t v d ps) :
    ∃ xs : List α, RE enc' sz (memOf w) v xs ∧ xs.length ≤ 9223372036854775807 ∧ ∀ x ∈ xs, good x := by
  obtain ⟨fuel, hf⟩ := h
  rw [hv] at hf
  rcases open_slice ht hf with ⟨hcs, _⟩ | ⟨a, len, cap, m, n, D, Pl, hcs, _, hl, hm, hmm, _, hi⟩
  · simp only [List.cons.injEq, and_true] at hcs
    subst hcs
    exact ⟨[], RE.nil _ _ _, by simp, by simp⟩
  · simp only [List.cons.injEq, and_true] at hcs
    subst hcs
    have ha := hspot a len cap rfl
    rw [addr_eta ha] at hi ⊢
    have hml : len ≤ m := by rw [hmm]; split <;> omega
    obtain ⟨xs, hx1, hx2⟩ := list_of (α := α) (good := fun i u => good u ∧ ∀ (j : Nat) c, (enc' u)[j]? = some c → memOf w a.block (a.off + i * sz + j) = some c) len (fun i hil => by
      obtain ⟨cs', hcell, htr⟩ := hi i (by omega)
      obtain ⟨u, rfl, hu⟩ := hel _ _ _ htr
      obtain ⟨_, hcl, hat⟩ := World.cells?_some hcell
      refine ⟨u, hu, fun j c hj => ?_⟩
      have hjl := (List.getElem?_eq_some_iff.1 hj).1
      have := hat j (by omega)
      rw [hc, add_flat, add_flat] at this
      show w.cell? _ = _
      rw [this, hj])
    subst hx1
    refine ⟨xs, ⟨flat_len he xs, fun c hc => ?_, .inr ⟨a.block, a.off, cap, rfl, hl, fun j c hj => ?_⟩⟩, by unfold maxLen at hm; omega, fun x hx => ?_⟩
    · obtain ⟨x, _, hx⟩ := List.mem_flatMap.1 hc; exact h1 x c hx
    · obtain ⟨x, hx, hxc⟩ := flat_at he hpos xs j c hj
      have := (hx2 _ x hx).2 _ c hxc
      have e : a.off + j / sz * sz + j % sz = a.off + j := by have := Nat.div_add_mod j sz; rw [Nat.mul_comm] at this; omega
      rwa [e] at this
    · obtain ⟨i, hi⟩ := List.getElem?_of_mem hx
      exact (hx2 i x hi).1
theorem okWide_spot {P : Program} {w : World} {r : Reach} {base : Nat} {t e : TypeId} {v : Value} (ht : P.underlying t = some (.slice e)) (h : Value.okWide P w r base t v) : v.cells.toList = [v] ∧ ∀ a len cap, v = .slice (some a) len cap → a.spot = none := by
  obtain ⟨a, len, cap, rfl⟩ := okWide_slice ht h
  refine ⟨rfl, fun a' l c he => ?_⟩
  cases he
  simp only [Value.okWide, ht, Cell.okWide, Cell.ok, World.has] at h
  exact h.2.2.2.1
theorem list2 {α : Type} : ∀ {l : List α}, l.length = 2 → ∃ a b, l = [a, b]
  | [a, b], _ => ⟨a, b, rfl⟩
theorem list3 {α : Type} : ∀ {l : List α}, l.length = 3 → ∃ a b c, l = [a, b, c]
  | [a, b, c], _ => ⟨a, b, c, rfl⟩
theorem list4 {α : Type} : ∀ {l : List α}, l.length = 4 → ∃ a b c d, l = [a, b, c, d]
  | [a, b, c, d], _ => ⟨a, b, c, d, rfl⟩
/-- A struct's fields, one cell each. -/
theorem trod_fields {H : Type} {enc : TypeId × Value → H} {P : Program} {w : World} {base : Nat} {sp : Nat → Bool} {held : Bool} {t : TypeId} {fs : Array Field} {n : Nat} {cs : List Value} {y : DataW H × List MemPlace} (ht : P.underlying t = some (.struct fs))
    (h : DataW.trod enc P w base sp held n t cs = some y) : cs.length = P.cellsOf t ∧ ∀ (i : Nat) (f : Field), fs[i]? = some f → f.offset = i → P.cellsOf f.type = 1 → ∀ c, cs[i]? = some c → ∃ m y, DataW.trod enc P w base sp held m f.type [c] = some y := by
  obtain ⟨ys, m, rfl, _, hl, hyl, hf⟩ := DataW.trod_struct ht h
  refine ⟨hl, fun i f hi ho hc c hci => ?_⟩
  have h1 := hf i f hi
  have h2 := (Array.getElem?_eq_some_iff.1 hi).1
  obtain ⟨h3, rfl⟩ := List.getElem?_eq_some_iff.1 hci
  rw [ho, hc, List.drop_eq_getElem_cons h3] at h1
  rw [List.getElem?_eq_getElem (by omega)] at h1
  exact ⟨m, _, h1⟩
end Go.Proofs.FW
