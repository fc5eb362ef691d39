/- Lemmas on the way to a statement of this seat: rules for walks, contracts of functions, and plain facts; each is proved, under the conditions that stand in it. -/
import Derived.Test.YtpoolffoalobnaaFW14
set_option linter.all false
namespace Go.Proofs.FW
open Go Go.RowKit
section
variable {α : Type} {enc : α → List Value} {sz : Nat}
theorem ins_cells {A B X R : List Value} {a s b : Nat} (ha : A.length = a) (hs : X.length = s) (hb : B.length = b) (hr : s ≤ R.length) :
    let c1 := (A ++ B ++ R).take (a + s) ++ B ++ (A ++ B ++ R).drop (a + s + b)
    c1.take a ++ X ++ c1.drop (a + s) = A ++ (X ++ B) ++ R.drop s := by
  intro c1
  subst ha hs hb
  have h1 : ((A ++ B ++ R).take (A.length + X.length)).length = A.length + X.length := by simp; omega
  have h2 : c1.take A.length = A := by
    show (((A ++ B ++ R).take (A.length + X.length) ++ B) ++ _).take A.length = A
    rw [List.append_assoc, List.take_append_of_le_length (by omega), List.take_take, Nat.min_eq_left (by omega), List.append_assoc, List.take_left]
  have h3 : c1.drop (A.length + X.length) = B ++ R.drop X.length := by
    show (((A ++ B ++ R).take (A.length + X.length) ++ B) ++ (A ++ B ++ R).drop (A.length + X.length + B.length)).drop (A.length + X.length) = _
    rw [List.append_assoc, List.drop_append_of_le_length (by omega), List.drop_eq_nil_of_le (by omega), List.nil_append]
    congr 1
    rw [show A.length + X.length + B.length = (A ++ B).length + X.length from by simp; omega, ← List.drop_drop, List.drop_left]
  rw [h2, h3]; simp
theorem ins_cells2 {A B X R : List Value} {a s b : Nat} (ha : A.length = a) (hs : X.length = s) (hb : B.length = b) (hr : s + b ≤ R.length) :
    let c1 := (A ++ R).take a ++ X ++ (A ++ R).drop (a + s)
    c1.take (a + s) ++ B ++ c1.drop (a + s + b) = A ++ (X ++ B) ++ R.drop (s + b) := by
  intro c1
  subst ha hs hb
  have h0 : c1 = A ++ X ++ R.drop X.length := by
    show (A ++ R).take A.length ++ X ++ (A ++ R).drop (A.length + X.length) = _
    rw [List.take_left, ← List.drop_drop, List.drop_left]
  have h1 : A.length + X.length = (A ++ X).length := by simp
  rw [h0, h1, List.take_left, ← List.drop_drop, List.drop_left, List.drop_drop]; simp
theorem flat_ins (xs : List α) (x : α) (i : Nat) : (xs.take i ++ x :: xs.drop i).flatMap enc = (xs.take i).flatMap enc ++ (enc x ++ (xs.drop i).flatMap enc) := by simp
theorem flat_part (xs : List α) (i : Nat) : xs.flatMap enc = (xs.take i).flatMap enc ++ (xs.drop i).flatMap enc := by rw [← List.flatMap_append, List.take_append_drop]
theorem drop_cell (he : ∀ x, (enc x).length = sz) {xs : List α} {rst : List Value} {i j : Nat} {v : Value} (h : ((xs.drop i).flatMap enc)[j]? = some v) : (xs.flatMap enc ++ rst)[i * sz + j]? = some v := by
  rw [← flat_drop he, List.getElem?_drop] at h
  rw [List.getElem?_append_left (List.getElem?_eq_some_iff.1 h).1]; exact h
theorem flat_one (h1 : ∀ x, ∀ c ∈ enc x, c.oneCell' = true) (xs : List α) : ∀ c ∈ xs.flatMap enc, c.oneCell' = true := by
  intro c hc; obtain ⟨x, _, hx⟩ := List.mem_flatMap.1 hc; exact h1 x c hx
end
section
variable {P : Program} {ρ : Env} {w : World} {Q : Env → World → Prop} {d : Option Tmp} {ty : TypeId} {v : Value}
theorem e_endCell2 {fn : Func} {K : Value → World → Prop} {a t b s : Nat} {cs : List Value} {e : TypeId} {w0 : World} {H : Mem} [c : Shp P t true cs.length] (hr : fn.results = #[.cell a t, .tmp s]) (hv : ρ a = .pointer (some ⟨b, 0, none⟩)) (hv' : ρ s = v) (hb : MineB w0 H w b cs e) (h : K (.tuple #[.agg cs.toArray, v]) w) : endV P fn K .ret ρ w := by
  refine ⟨.tuple #[.agg cs.toArray, v], ?_, h⟩
  have hl : (loadVar t ⟨b, 0, none⟩).run P w = .ok (.agg cs.toArray) w := by
    have := run_loadAtN (P := P) (t := t) (b := b) (o := 0) (cs := cs) (w := w) (fun j v hj => by rw [Nat.zero_add]; exact hb.blk.cell hj)
    simpa [Instr.loadAt, Instr.sureAddr] using this
  simp [resV, hr, hv, hv', asAddr, hl]
theorem foldl_set : ∀ (cs : List Value) (k : Nat) (a : List Value), k + cs.length ≤ a.length →
    ((cs.zipIdx k).foldl (fun (x : Array Value) (p : Value × Nat) => x.setIfInBounds (0 + p.2) p.1) a.toArray) = (a.take k ++ cs ++ a.drop (k + cs.length)).toArray
  | [], k, a, _ => by simp
  | c :: cs, k, a, h => by
    simp only [List.length_cons] at h
    rw [List.zipIdx_cons, List.foldl_cons]
    simp only [Nat.zero_add, List.setIfInBounds_toArray]
    have := foldl_set cs (k + 1) (a.set k c) (by rw [List.length_set]; omega)
    simp only [Nat.zero_add] at this
    rw [this]
    congr 1
    rw [List.take_succ_eq_append_getElem (by rw [List.length_set]; omega), List.getElem_set_self, List.take_set_of_le (Nat.le_refl _), List.drop_set_of_lt (by omega)]
    simp [Nat.add_assoc, Nat.add_comm 1]
theorem fill_one {cells zs : List Value} {sz : Nat} (h1 : cells.length = sz) (h2 : zs.length = sz) : Instr.fill (fun i => some (i * sz, sz)) zs.toArray [(0, .agg cells.toArray)] = some cells.toArray := by
  have h := foldl_set cells 0 zs (by omega)
  unfold Instr.fill
  dsimp only
  split
  · rename_i hh
    have hc : (Value.agg cells.toArray).cells = cells.toArray := rfl
    rw [hc] at hh
    simp [h1, h2] at hh
  · unfold Instr.fill
    have hc : (Value.agg cells.toArray).cells = cells.toArray := rfl
    rw [hc, ← Array.foldl_toList, Array.toList_zipIdx, Nat.zero_mul]
    refine congrArg some (Eq.trans h ?_)
    simp only [List.take_zero, List.nil_append, h1, Nat.zero_add]
    rw [← h2, List.drop_length, List.append_nil]
/-- []T{x}. -/
theorem e_buildSlice1 {t e : TypeId} {sz bytes : Nat} {z : Value} [c : Slc P t e sz bytes z] {x : Operand} {parts : Array (Nat × Operand)} {cells : List Value} {w0 : World} {H0 H : Mem} (hs : St w0 H0 H w)
    (hp : parts = #[(0, x)]) (hx : ev ρ x = .agg cells.toArray) (hl : cells.length = sz) (hpos : Nat.blt 0 sz = true) (hsmall : Nat.ble sz 16777216 = true)
    (h : ∀ g w', w.heap.size ≤ g → w.grownBy w' none → MineB w0 H w' g cells e → Q (put ρ d (.slice (some ⟨g, 0, none⟩) 1 1)) w') : ost P (.buildSlice t 1 parts) ty d ρ w Q := by
  subst hp
  have h0 := Nat.le_of_ble_eq_true hpos
  refine e_buildSlice (z := z) (sz := sz) (ps := [(0, .agg cells.toArray)]) hs (by simp [hx]) ?_ (by rwa [Nat.one_mul]) ?_ h
  · cases hb : Nat.beq (1 * sz) 0 with
    | false => rfl
    | true => have := Nat.eq_of_beq_eq_true hb; omega
  · exact fill_one hl (by simp)
theorem d_two {ops : Array Oper} {S : World → Prop} {i j : Nat} {p q : Plan} (h1 : drawV P ops S Q (.e1 i p) ρ w) (h2 : drawV P ops S Q (.e1 j q) ρ w) : drawV P ops S Q (.e2 i p j q) ρ w := ⟨h1, h2⟩
theorem Mine.base {w0 w1 : World} {H : Mem} {e : TypeId} {sz n : Nat} {cs : List Value} (m : Mine w1 H w e sz v n cs) (h : w0.heap.size ≤ w1.heap.size) : Mine w0 H w e sz v n cs := by
  obtain ⟨⟨h1, h2⟩, h3⟩ := m
  refine ⟨⟨h1, ?_⟩, h3⟩
  rcases h2 with h2 | ⟨g, cap, cur, hv, hb, rest⟩
  · exact .inl h2
  · exact .inr ⟨g, cap, cur, hv, Nat.le_trans h hb, rest⟩
theorem MineB.base' {w0 w1 : World} {H : Mem} {e : TypeId} {g : Nat} {cs : List Value} (m : MineB w1 H w g cs e) (h : w0.heap.size ≤ w1.heap.size) : MineB w0 H w g cs e := ⟨m.blk, m.off, Nat.le_trans h m.base⟩
theorem ME.base {α : Type} {enc : α → List Value} {w0 w1 : World} {H : Mem} {e : TypeId} {sz : Nat} {xs : List α} (m : ME enc sz w1 H w e v xs) (h : w0.heap.size ≤ w1.heap.size) : ME enc sz w0 H w e v xs := Mine.base m h
/-- A struct that lies in a struct. -/
theorem a_loadMP {t : TypeId} {x : Operand} {b o k : Nat} {cs vs : List Value} [c : Shp P t true k] {e : TypeId} {w0 : World} {H : Mem} (hx : ev ρ x = .pointer (some ⟨b, o, none⟩)) (hb : MineB w0 H w b cs e) (hv : (cs.drop o).take k = vs) (hk : vs.length = k) : At P ty (.load t x) ρ w (.agg vs.toArray) := by
  subst hk
  refine a_loadN hx (fun j v hj => hb.blk.cell ?_)
  rw [← hv, List.getElem?_take] at hj
  split at hj
  · rwa [List.getElem?_drop] at hj
  · cases hj
end
end Go.Proofs.FW
