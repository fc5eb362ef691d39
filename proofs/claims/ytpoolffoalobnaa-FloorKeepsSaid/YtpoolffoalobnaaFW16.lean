/- Lemmas on the way to a statement of this seat: rules for walks, contracts of functions, and plain facts; each is proved, under the conditions that stand in it. -/
import Derived.Test.YtpoolffoalobnaaFW15
set_option linter.all false
namespace Go.Proofs.FW
open Go Go.RowKit
theorem foldl_setO (o : Nat) : ∀ (cs : List Value) (k : Nat) (a : List Value), o + k + cs.length ≤ a.length →
    ((cs.zipIdx k).foldl (fun (x : Array Value) (p : Value × Nat) => x.setIfInBounds (o + p.2) p.1) a.toArray) = (a.take (o + k) ++ cs ++ a.drop (o + k + cs.length)).toArray
  | [], k, a, _ => by simp
  | c :: cs, k, a, h => by
    simp only [List.length_cons] at h
    rw [List.zipIdx_cons, List.foldl_cons]
    simp only [List.setIfInBounds_toArray]
    have := foldl_setO o cs (k + 1) (a.set (o + k) c) (by rw [List.length_set]; omega)
    rw [this]
    congr 1
    rw [← Nat.add_assoc, List.take_succ_eq_append_getElem (by rw [List.length_set]; omega), List.getElem_set_self, List.take_set_of_le (Nat.le_refl _), List.drop_set_of_lt (by omega)]
    simp [Nat.add_assoc, Nat.add_comm 1]
theorem fill_step {place : Nat → Option (Nat × Nat)} {cells zs : List Value} {i o sz : Nat} {rest : List (Nat × Value)} (hp : place i = some (o, sz)) (h1 : cells.length = sz) (h2 : o + sz ≤ zs.length) :
    Instr.fill place zs.toArray ((i, .agg cells.toArray) :: rest) = Instr.fill place (zs.take o ++ cells ++ zs.drop (o + sz)).toArray rest := by
  have h := foldl_setO o cells 0 zs (by omega)
  conv => lhs; unfold Instr.fill
  rw [hp]
  dsimp only
  have hc : (Value.agg cells.toArray).cells = cells.toArray := rfl
  split
  · rename_i hh
    rw [hc] at hh
    simp [h1] at hh
    omega
  · rw [hc, ← Array.foldl_toList, Array.toList_zipIdx]
    rw [Nat.add_zero, h1] at h
    exact congrArg (fun a => Instr.fill place a rest) h
theorem fill_two {c1 c2 zs : List Value} {sz : Nat} (h1 : c1.length = sz) (h2 : c2.length = sz) (hz : zs.length = 2 * sz) : Instr.fill (fun i => some (i * sz, sz)) zs.toArray [(0, .agg c1.toArray), (1, .agg c2.toArray)] = some (c1 ++ c2).toArray := by
  rw [fill_step (o := 0 * sz) (sz := sz) rfl h1 (by omega), fill_step (o := 1 * sz) (sz := sz) rfl h2 (by simp [h1]; omega)]
  unfold Instr.fill
  rw [Nat.zero_mul, Nat.one_mul, List.take_zero, List.nil_append, Nat.zero_add]
  subst h1
  rw [List.take_left, ← List.drop_drop, List.drop_left, List.drop_drop, List.drop_eq_nil_of_le (by omega), List.append_nil]
section
variable {P : Program} {ρ : Env} {w : World} {Q : Env → World → Prop} {d : Option Tmp} {ty : TypeId} {v : Value}
/-- []T{x, y}. -/
theorem e_buildSlice2 {t e : TypeId} {sz bytes : Nat} {z : Value} [c : Slc P t e sz bytes z] {x y : Operand} {parts : Array (Nat × Operand)} {c1 c2 : List Value} {w0 : World} {H0 H : Mem} (hs : St w0 H0 H w)
    (hp : parts = #[(0, x), (1, y)]) (hx : ev ρ x = .agg c1.toArray) (hy : ev ρ y = .agg c2.toArray) (h1 : c1.length = sz) (h2 : c2.length = sz) (hpos : Nat.blt 0 sz = true) (hsmall : Nat.ble (2 * sz) 16777216 = true)
    (h : ∀ g w', w.heap.size ≤ g → w.grownBy w' none → MineB w0 H w' g (c1 ++ c2) e → Q (put ρ d (.slice (some ⟨g, 0, none⟩) 2 2)) w') : ost P (.buildSlice t 2 parts) ty d ρ w Q := by
  subst hp
  have h0 := Nat.le_of_ble_eq_true hpos
  refine e_buildSlice (z := z) (sz := sz) (ps := [(0, .agg c1.toArray), (1, .agg c2.toArray)]) hs (by simp [hx, hy]) ?_ hsmall ?_ h
  · cases hb : Nat.beq (2 * sz) 0 with
    | false => rfl
    | true => have := Nat.eq_of_beq_eq_true hb; omega
  · exact fill_two h1 h2 (by simp)
end
end Go.Proofs.FW
