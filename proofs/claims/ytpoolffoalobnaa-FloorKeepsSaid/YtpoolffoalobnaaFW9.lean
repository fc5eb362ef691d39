/- Lemmas on the way to a statement of this seat: rules for walks, contracts of functions, and plain facts; each is proved, under the conditions that stand in it. -/
import Derived.Test.YtpoolffoalobnaaFW8
set_option linter.all false
namespace Go.Proofs.FW
open Go Go.RowKit

theorem grownBy.refl (w : World) (row : Option Nat) : w.grownBy w row := ⟨rfl, rfl, rfl, Nat.le_refl _, fun _ _ _ => rfl⟩
theorem grownBy.trans {a b c : World} {row : Option Nat} (h : a.grownBy b row) (k : b.grownBy c row) : a.grownBy c row :=
  ⟨k.os.trans h.os, k.tape.trans h.tape, k.output.trans h.output, Nat.le_trans h.size k.size, fun i hi hr => (k.block i (Nat.lt_of_lt_of_le hi h.size) hr).trans (h.block i hi hr)⟩
theorem grownBy.any {a b : World} (h : a.grownBy b none) (row : Option Nat) : a.grownBy b row := ⟨h.os, h.tape, h.output, h.size, fun k hk _ => h.block k hk (by simp)⟩
theorem grownBy.below {a b : World} (h : a.grownBy b none) : Below a.heap.size a b := ⟨h.os, h.tape, h.output, h.size, fun k hk => h.block k hk (by simp)⟩
theorem St.grown {w w' : World} {H H' : Mem} (h : St w H H' w') : w.grownBy w' none := grownBy_below h.below

theorem flat_set {α : Type} {enc : α → List Value} {sz : Nat} (he : ∀ x, (enc x).length = sz) (xs : List α) (i : Nat) (x : α) (hi : i < xs.length) (rest : List Value) :
    (xs.flatMap enc ++ rest).take (i * sz) ++ enc x ++ (xs.flatMap enc ++ rest).drop (i * sz + (enc x).length) = (xs.set i x).flatMap enc ++ rest := by
  have hl := flat_len he xs
  have h1 : i * sz + sz ≤ xs.length * sz := by rw [← Nat.succ_mul]; exact Nat.mul_le_mul_right sz hi
  rw [he, List.take_append_of_le_length (by omega), List.drop_append_of_le_length (by omega), flat_take he, ← Nat.succ_mul, flat_drop he, List.set_eq_take_append_cons_drop, if_pos hi, List.flatMap_append, List.flatMap_cons]
  simp [List.append_assoc]

section
variable {α : Type} {enc : α → List Value} {sz : Nat}
/-- A slice of one's own that has these elements. -/
def ME (enc : α → List Value) (sz : Nat) (w0 : World) (H : Mem) (w : World) (e : TypeId) (v : Value) (xs : List α) : Prop := Mine w0 H w e sz v xs.length (xs.flatMap enc)
variable {w0 w w' : World} {H0 H H' : Mem} {e : TypeId} {v : Value} {xs : List α}
theorem ME.call (m : ME enc sz w0 H w e v xs) (c : St w H H' w') : ME enc sz w0 H' w' e v xs := Mine.call m c
theorem ME.grow0 (m : ME enc sz w0 H w e v xs) (hg : w.grownBy w' none) : ME enc sz w0 H w' e v xs := Mine.grow0 m hg
theorem ME.nil (w0 : World) (H : Mem) (w : World) (e : TypeId) : ME enc sz w0 H w e (.slice none 0 0) [] := Mine.nil w0 H w e sz
theorem ME.shape (m : ME enc sz w0 H w e v xs) : ∃ a cap, v = .slice a xs.length cap ∧ xs.length ≤ cap := by
  rcases Mine.cases m with ⟨h1, h2, h3⟩ | ⟨g, cap, rest, h1, _, h2, _, _⟩
  · exact ⟨none, 0, by rw [h1, h2], by omega⟩
  · exact ⟨_, cap, h1, h2⟩
theorem ME.pos (m : ME enc sz w0 H w e v xs) (hn : 0 < xs.length) : ∃ g cap rest, v = .slice (some ⟨g, 0, none⟩) xs.length cap ∧ MineB w0 H w g (xs.flatMap enc ++ rest) e ∧ xs.length ≤ cap ∧ cap ≤ maxLen ∧ (xs.flatMap enc ++ rest).length = cap * sz := by
  rcases Mine.cases m with ⟨h1, h2, h3⟩ | h
  · omega
  · exact h
theorem ME.mk' (he : ∀ x, (enc x).length = sz) {g cap : Nat} {rest : List Value} (m : MineB w0 H w g (xs.flatMap enc ++ rest) e) (hnc : xs.length ≤ cap) (hcm : cap ≤ maxLen) (hc : (xs.flatMap enc ++ rest).length = cap * sz) :
    ME enc sz w0 H w e (.slice (some ⟨g, 0, none⟩) xs.length cap) xs := Mine.mk' m (flat_len he xs) hnc hcm hc
theorem ME.publish (m : ME enc sz w0 H w e v xs) (s : St w0 H0 H w) (h1 : ∀ x, ∀ c ∈ enc x, c.oneCell' = true) :
    ∃ H', St w0 H0 H' w ∧ H.le H' ∧ RE enc sz H' v xs ∧ (∀ g, some g ≠ v.ownBlock → ∀ o, H' g o = H g o) :=
  Mine.publish m s (fun c hc => by obtain ⟨x, _, hx⟩ := List.mem_flatMap.1 hc; exact h1 x c hx)
end

section
variable {P : Program} {ops : Array Oper} {rest : List Oper} {ρ : Env} {w : World} {Q : Env → World → Prop} {d : Option Tmp} {ty : TypeId} {pos : String} {af : Array Edge} {v : Value}
variable {α : Type} {enc : α → List Value} {sz : Nat} {w0 : World} {H0 H : Mem} {e : TypeId} {xs : List α}
/-- x = s[i], of one's own. -/
theorem a_loadE {t : TypeId} {x : Operand} {g o cap i : Nat} {u : α} [c : Shp P t true (enc u).length] (he : ∀ x, (enc x).length = sz) (m : ME enc sz w0 H w e (.slice (some ⟨g, 0, none⟩) xs.length cap) xs) (hu : xs[i]? = some u) (ho : o = i * sz) (hx : ev ρ x = .pointer (some ⟨g, o, none⟩)) : At P ty (.load t x) ρ w (.agg (enc u).toArray) := by
  subst ho
  obtain ⟨g', cap', rst, h1, hb, _⟩ := m.pos (by have := (List.getElem?_eq_some_iff.1 hu).1; omega)
  cases h1
  refine a_loadN hx fun j c hj => hb.blk.cell ?_
  have := flat_get he xs i u j c hu hj
  rw [List.getElem?_append_left (List.getElem?_eq_some_iff.1 this).1]
  exact this
/-- s[i] = x, of one's own. -/
theorem e_storeE {t : TypeId} {x y : Operand} {g o cap i : Nat} {u : α} [c : Shp P t true (enc u).length] (he : ∀ x, (enc x).length = sz) (h1 : ∀ x, ∀ c ∈ enc x, c.oneCell' = true) (hs : St w0 H0 H w) (m : ME enc sz w0 H w e (.slice (some ⟨g, 0, none⟩) xs.length cap) xs) (hi : i < xs.length) (ho : o = i * sz)
    (hx : ev ρ x = .pointer (some ⟨g, o, none⟩)) (hy : ev ρ y = .agg (enc u).toArray)
    (h : ∀ w', w.grownBy w' (some g) → St w0 H0 H w' → ME enc sz w0 H w' e (.slice (some ⟨g, 0, none⟩) xs.length cap) (xs.set i u) → Q ρ w') : ost P (.store t x y) ty none ρ w Q := by
  subst ho
  obtain ⟨g', cap', rst, hv, hb, hnc, hcm, hcl⟩ := m.pos (by omega)
  cases hv
  have hl := flat_len he xs
  have hfit : i * sz + sz ≤ xs.length * sz := by rw [← Nat.succ_mul]; exact Nat.mul_le_mul_right sz hi
  refine e_storeN hx hb hy (h1 u) (by rw [he, List.length_append, hl]; omega) fun w' hg mb => ?_
  rw [flat_set he xs i u hi rst] at mb
  refine h w' hg (hs.write hg mb.base mb.off) ?_
  have hle : (xs.set i u).length = xs.length := List.length_set
  have := ME.mk' (xs := xs.set i u) he mb (by rw [hle]; exact hnc) hcm (by rw [List.length_append, flat_len he, hle, ← hl, ← List.length_append]; exact hcl)
  rwa [hle] at this
/-- s[:k] -/
theorem ME.cut {g cap k : Nat} (he : ∀ x, (enc x).length = sz) (m : ME enc sz w0 H w e (.slice (some ⟨g, 0, none⟩) xs.length cap) xs) (hk : k ≤ xs.length) (hn : 0 < xs.length) : ME enc sz w0 H w e (.slice (some ⟨g, 0, none⟩) k cap) (xs.take k) := by
  obtain ⟨g', cap', rst, hv, hb, hnc, hcm, hcl⟩ := m.pos hn
  cases hv
  have hl : (xs.take k).length = k := by rw [List.length_take]; omega
  have hsplit : xs.flatMap enc ++ rst = (xs.take k).flatMap enc ++ ((xs.drop k).flatMap enc ++ rst) := by
    rw [← List.append_assoc, ← List.flatMap_append, List.take_append_drop]
  rw [hsplit] at hb hcl
  have := ME.mk' (xs := xs.take k) he hb (by omega) hcm hcl
  rwa [hl] at this
theorem run_clear0 {t e : TypeId} {sz bytes : Nat} {z : Value} [c : Slc P t e sz bytes z] {a : Option Addr} {cap : Nat} (ty : TypeId) (w : World) : (Builtin.clear_ #[t] ty #[.slice a 0 cap]).run P w = .ok (.tuple #[]) w := by
  obtain ⟨ti, h2, h3, h4, h5, h6, h7⟩ := c.out
  cases a <;> simp [Builtin.clear_, run_underlying h2]
/-- clear of the end of what is one's own: that end is no matter any more. -/
theorem e_clear {t e : TypeId} {sz bytes : Nat} {z : Value} [c : Slc P t e sz bytes z] {x : Operand} {g o n cap : Nat} {cs rst : List Value} {tt : Array TypeId} (hs : St w0 H0 H w) (hb : MineB w0 H w g (cs ++ rst) e) (ho : o = cs.length) (hn : n * sz ≤ rst.length) (h1 : z.cells.all (·.oneCell') = true)
    (ht : tt = #[t]) (hx : ev ρ x = .slice (some ⟨g, o, none⟩) n cap)
    (h : ∀ w' rst', rst'.length = rst.length → w.grownBy w' (some g) → St w0 H0 H w' → MineB w0 H w' g (cs ++ rst') e → Q (put ρ d (.tuple #[])) w') :
    ost P (.call { callee := .builtin .clear, args := #[x], argTypes := tt }) ty d ρ w Q := by
  subst ht ho
  obtain ⟨ti, h2, h3, h4, h5, h6, h7⟩ := c.out
  by_cases hz : n = 0
  · subst hz
    have hr := run_clear0 (P := P) (t := t) (a := some ⟨g, cs.length, none⟩) (cap := cap) ty w
    refine r_to (w' := w) (v := .tuple #[]) (.inl ?_) (h w rst rfl (grownBy.refl _ _) hs hb)
    simp only [execOp, resolve, invoke, builtin, Sem.run_bind, Sem.run_pure, Result.andThen_ok, List.map_toArray, List.map_cons, List.map_nil, hx, hr]
  · have hzs : (Builtin.zeroCells z.cells n).toList.length = n * sz := by rw [Array.length_toList, size_zeroCells, h7]
    have hzo : ∀ v ∈ (Builtin.zeroCells z.cells n).toList, v.oneCell' = true := by
      intro v hv
      simp only [Builtin.zeroCells, Array.toList_map, List.mem_map] at hv
      obtain ⟨i, hi, rfl⟩ := hv
      have hi' : i < n * z.cells.size := by simpa using hi
      have hpos : 0 < z.cells.size := by rcases Nat.eq_zero_or_pos z.cells.size with h0 | h0; · rw [h0] at hi'; omega
                                         · exact h0
      have hlt := Nat.mod_lt i hpos
      rw [Array.getElem!_eq_getD, Array.getD_eq_getD_getElem?, Array.getElem?_eq_getElem hlt]
      exact Array.all_eq_true_iff_forall_mem.1 h1 _ (Array.getElem_mem hlt)
    have hst := run_storeCells_at P g cs.length e (Builtin.zeroCells z.cells n).toList 0 (cs ++ rst).toArray w hb.blk (by simp [hzs] at *; simpa [hzs, h7, size_zeroCells] using hn) hzo
    have hrun : (Builtin.clear_ #[t] ty #[.slice (some ⟨g, cs.length, none⟩) n cap]).run P w = .ok (.tuple #[]) (w.setRow g (cs ++ ((Builtin.zeroCells z.cells n).toList ++ rst.drop (n * sz))).toArray) := by
      have hcut : ((cs ++ rst).toArray.toList.take (cs.length + 0) ++ (Builtin.zeroCells z.cells n).toList ++ (cs ++ rst).toArray.toList.drop (cs.length + 0 + (Builtin.zeroCells z.cells n).toList.length)) = cs ++ ((Builtin.zeroCells z.cells n).toList ++ rst.drop (n * sz)) := by
        rw [hzs, Nat.add_zero, List.take_left, ← List.drop_drop, List.drop_left, List.append_assoc]
      rw [hcut] at hst
      cases n with
      | zero => exact absurd rfl hz
      | succ k => simp [Builtin.clear_, run_underlying h2, zeroValue, typeInfo, h3, h4, hst]
    have hg := grownBy_setRow w g (cs ++ ((Builtin.zeroCells z.cells n).toList ++ rst.drop (n * sz))).toArray
    refine r_to (v := .tuple #[]) (.inl ?_) (h _ ((Builtin.zeroCells z.cells n).toList ++ rst.drop (n * sz)) ?_ hg (hs.write hg hb.base hb.off) ⟨setRow_heap w g _ _ e _ hb.blk, hb.off, hb.base⟩)
    · simp only [execOp, resolve, invoke, builtin, Sem.run_bind, Sem.run_pure, Result.andThen_ok, List.map_toArray, List.map_cons, List.map_nil, hx, hrun]
    · rw [List.length_append, hzs, List.length_drop]; omega
end
end Go.Proofs.FW
