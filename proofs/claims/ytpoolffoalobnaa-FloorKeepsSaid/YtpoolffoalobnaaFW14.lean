/- Lemmas on the way to a statement of this seat: rules for walks, contracts of functions, and plain facts; each is proved, under the conditions that stand in it. -/
import Derived.Test.YtpoolffoalobnaaFW13
import Derived.Lib.Overlaps
import Derived.Lib.AppendZerosOnto
set_option linter.all false
namespace Go.Proofs.FW
open Go Go.RowKit
section
variable {P : Program} {ρ : Env} {w : World} {Q : Env → World → Prop} {d : Option Tmp} {ty : TypeId} {v : Value}
theorem add_flat (b o j : Nat) : (⟨b, o, none⟩ : Addr).add j = ⟨b, o + j, none⟩ := by unfold Addr.add; split <;> simp_all
theorem run_copyN {dT e sT : TypeId} {sz bytes : Nat} {z : Value} [c : Slc P dT e sz bytes z] {g o dLen dCap b o' sLen sCap k : Nat} {cur cs : List Value} {t : TypeId} (hb : Blk w g cur t) (hk : Nat.min sLen dLen = k) (hn : cs.length = k * sz)
    (hsrc : ∀ (j : Nat) v, cs[j]? = some v → w.cell? ⟨b, o' + j, none⟩ = some v) (hfit : o + cs.length ≤ cur.length) (h1 : ∀ v ∈ cs, v.oneCell' = true) :
    (Builtin.copy_ #[dT, sT] ty #[.slice (some ⟨g, o, none⟩) dLen dCap, .slice (some ⟨b, o', none⟩) sLen sCap]).run P w = .ok (goInt k) (w.setRow g (cur.take o ++ cs ++ cur.drop (o + cs.length)).toArray) := by
  obtain ⟨ti, h2, h3, h4, h5, h6, h7⟩ := c.out
  subst hk
  have hl := run_loadCells_list (P := P) w ⟨b, o', none⟩ cs (fun j v hj => by rw [add_flat]; exact hsrc j v hj)
  have hst := run_storeCells_at P g o t cs 0 cur.toArray w hb (by simpa using hfit) h1
  rw [hn] at hl
  simp [Builtin.copy_, run_underlying h2, Builtin.lenOf, Builtin.firstCells, sizeOf, typeInfo, h3, h5, hl, hst]
theorem e_copy {dT e sT : TypeId} {sz bytes : Nat} {z : Value} [c : Slc P dT e sz bytes z] {x y : Operand} {g o dLen dCap b o' sLen sCap k : Nat} {cur cs : List Value} {e' : TypeId} {tt : Array TypeId} {w0 : World} {H : Mem}
    (hx : ev ρ x = .slice (some ⟨g, o, none⟩) dLen dCap) (hy : ev ρ y = .slice (some ⟨b, o', none⟩) sLen sCap) (ht : tt = #[dT, sT]) (hm : MineB w0 H w g cur e') (hk : Nat.min sLen dLen = k) (hn : cs.length = k * sz)
    (hsrc : ∀ (j : Nat) v, cs[j]? = some v → w.cell? ⟨b, o' + j, none⟩ = some v) (hfit : o + cs.length ≤ cur.length) (h1 : ∀ v ∈ cs, v.oneCell' = true)
    (h : ∀ w', w.grownBy w' (some g) → MineB w0 H w' g (cur.take o ++ cs ++ cur.drop (o + cs.length)) e' → Q (put ρ d (.int .i64 k)) w') :
    ost P (.call { callee := .builtin .copy, args := #[x, y], argTypes := tt }) ty d ρ w Q := by
  subst ht
  refine r_to (w' := w.setRow g (cur.take o ++ cs ++ cur.drop (o + cs.length)).toArray) (v := .int .i64 k) (.inl ?_) (h _ (grownBy_setRow _ _ _) ⟨setRow_heap w g _ _ e' _ hm.blk, hm.off, hm.base⟩)
  have := run_copyN (P := P) (dT := dT) (sT := sT) (dCap := dCap) (sCap := sCap) (ty := ty) hm.blk hk hn hsrc hfit h1
  simp only [execOp, resolve, invoke, builtin, Sem.run_bind, Sem.run_pure, Result.andThen_ok, List.map_toArray, List.map_cons, List.map_nil, hx, hy, this]
  rfl
theorem blk_shape {g : Nat} {cs : List Value} {e : TypeId} (h : Blk w g cs e) : w.shape? g = some (e, cs.length) := by
  unfold World.shape?; rw [show w.heap[g]? = _ from h]; simp
theorem blk_thawed {g o : Nat} {cs : List Value} {e : TypeId} (h : Blk w g cs e) : w.frozen? ⟨g, o, none⟩ = false := by
  unfold World.frozen?; rw [show w.heap[g]? = _ from h]; simp
/-- A call of a function without a body. -/
theorem r_extern {x : Operand} {args : Array Operand} {f : FuncId} {caps : Array Value} {as : List Value} {fn : Func} {tt : Array TypeId} {e : Array Value → Sem Value} {w' : World} (hf : P.funcs[f]? = some fn) (hname : (fn.name == "runtime.NumGoroutine") = false)
    (hb : fn.body.isNone = true) (hn : Extern.findNext fn = none) (he : Extern.find fn = some e) (hx : ev ρ x = .func (.func f) #[] caps) (ha' : args.toList.map (ev ρ) ++ caps.toList = as) (hr : (e as.toArray).run P w = .ok v w') (h : Q (put ρ d v) w') :
    ost P (.call { callee := .value x, args := args, argTypes := tt }) ty d ρ w Q := by
  have ha : args.map (ev ρ) ++ caps = as.toArray := by subst ha'; simp
  show opV P ty _ ρ w _
  unfold opV
  have hrun := run_callFunc_extern hf hname hb hn he as.toArray w
  rw [hr] at hrun
  simp only [Result.andThen_ok] at hrun
  simp only [execOp, resolve, hx, Deferred.ofValue, Sem.run_bind, Sem.run_pure, Result.andThen_ok, invoke, Array.empty_append, ha, hrun]
  exact h
theorem run_apart {tS tR e : TypeId} {sz bytes : Nat} {z : Value} [c : Slc P tS e sz bytes z] {a oa la ca b ob lb cb : Nat} {ea eb : TypeId} {xa xb : List Value} (ha : Blk w a xa ea) (hb : Blk w b xb eb) (hne : a ≠ b) (hx : xb ≠ []) :
    (Extern.SlicesOverlaps.overlaps #[tS, tS] #[tR] [Value.slice (some ⟨a, oa, none⟩) la ca, .slice (some ⟨b, ob, none⟩) lb cb].toArray).run P w = .ok (.bool false) w := by
  obtain ⟨ti, h2, h3, h4, h5, h6, h7⟩ := c.out
  exact Go.Lib.run_overlaps_apart w tS tR e h2 ti.size (fun w => by simp [sizeOf, typeInfo, h3]) ⟨a, oa, none⟩ ⟨b, ob, none⟩ la ca lb cb hne ea eb _ _ (blk_shape ha) (blk_shape hb) (by simpa using hx) (blk_thawed ha) (blk_thawed ha)
/-- append(x, make([]T, k)...), where there is no room. -/
theorem e_appendZ {t e tn : TypeId} {sz bytes : Nat} {z : Value} [c : Slc P t e sz bytes z] {kn : IntKind} [ck : IntT P tn kn] {x y : Operand} {g sLen sCap k : Nat} {cur olds : List Value} {e' : TypeId} {tt : Array TypeId} {w0 : World} {H H0 : Mem} {kq : IntKind} {ak : Int}
    (hs : St w0 H0 H w) (hx : ev ρ x = .slice (some ⟨g, 0, none⟩) sLen sCap) (hy : ev ρ y = .int kq ak) (hak : ak = k) (ht : tt = #[t, tn]) (hm : MineB w0 H w g cur e') (ho : cur.take (sLen * sz) = olds) (hl : olds.length = sLen * sz)
    (h0 : 0 < k) (hsz : Nat.blt 0 sz = true) (hg : sCap < sLen + k) (h63 : sLen + k ≤ maxLen) (hbytes : (sLen + k) * bytes ≤ 140737488355328)
    (h : ∀ g' w' cap rest, w.heap.size ≤ g' → w.grownBy w' none → sLen + k ≤ cap → cap ≤ maxLen → (olds ++ rest).length = cap * sz → MineB w0 H w' g' (olds ++ rest) e → Q (put ρ d (.slice (some ⟨g', 0, none⟩) (sLen + k) cap)) w') :
    ost P (.call { callee := .builtin .append, args := #[x, y], argTypes := tt }) ty d ρ w Q := by
  obtain ⟨ti, h2, h3, h4, h5, h6, h7⟩ := c.out
  have hi := ck.h
  subst ht h5 h6 ho hak
  have hsz' : 0 < ti.size := Nat.le_of_ble_eq_true hsz
  have hmax : sLen + k ≤ 9223372036854775807 := by simp only [maxLen] at h63; omega
  have hold : (Builtin.firstCells ti.size sLen (.slice (some ⟨g, 0, none⟩) sLen sCap)).run P w.drew = .ok (cur.take (sLen * ti.size)).toArray w.drew := by
    have hl' := run_loadCells_list (P := P) w.drew ⟨g, 0, none⟩ (cur.take (sLen * ti.size)) (fun j v hj => by
      rw [add_flat, Nat.zero_add]
      refine (Blk.cell (w := w.drew) (e := e') (g := g) (cs := cur) hm.blk ?_)
      rw [List.getElem?_take] at hj
      split at hj
      · exact hj
      · cases hj)
    rw [hl] at hl'
    simpa [Builtin.firstCells] using hl'
  have hr := Go.Lib.run_append_grow_zeros (P := P) w t tn ty e ti z kq kn h2 hi h3 h4 (some ⟨g, 0, none⟩) sLen sCap _ hold k h0 hsz' hg (by omega)
    (Nat.le_trans (Nat.mul_le_mul_right _ (Nat.le_add_left k sLen)) (by omega)) (growslice_fits hg hbytes)
  have hge := grownCap_ge w (sLen + k) sCap e
  have hcm : grownCap w (sLen + k) sCap e ≤ maxLen := grownCap_le_maxLen w (sLen + k) sCap e h63
  have hd : (Builtin.zeroCells z.cells k).toList.length + (Builtin.zeroCells z.cells (grownCap w (sLen + k) sCap e - (sLen + k))).toList.length = (grownCap w (sLen + k) sCap e - sLen) * ti.size := by
    rw [Array.length_toList, Array.length_toList, size_zeroCells, size_zeroCells, h7, ← Nat.add_mul]; congr 1; omega
  refine r_to (.inl ?_) (h w.heap.size _ (grownCap w (sLen + k) sCap e) ((Builtin.zeroCells z.cells k).toList ++ (Builtin.zeroCells z.cells (grownCap w (sLen + k) sCap e - (sLen + k))).toList) (Nat.le_refl _)
    (?_ : w.grownBy (w.drew.alloc (.cells ((cur.take (sLen * ti.size)).toArray ++ Builtin.zeroCells z.cells k ++ Builtin.zeroCells z.cells (grownCap w (sLen + k) sCap e - (sLen + k))) e)) none) hge hcm ?_ ⟨?_, hs.mem.off (Nat.le_refl _), hs.size⟩)
  · simp only [execOp, resolve, invoke, builtin, Sem.run_bind, Sem.run_pure, Result.andThen_ok, List.map_toArray, List.map_cons, List.map_nil, hx, hy, hr]
  · exact ⟨rfl, rfl, rfl, by simp, fun k hk _ => heap_alloc_old w.drew _ k hk⟩
  · rw [List.length_append, List.length_append, hd, hl, ← Nat.add_mul]; congr 1; omega
  · unfold Blk
    rw [show w.heap.size = w.drew.heap.size from rfl, heap_alloc_new]
    simp
theorem p_sliceNil {t e : TypeId} {sz bytes : Nat} {z : Value} [c : Slc P t e sz bytes z] {x : Operand} {lo hi mx : Option Operand}
    (hx : ev ρ x = .slice none 0 0) (hw : ∀ w, (Instr.sliceBounds true 0 0 (lo.map (ev ρ)) (hi.map (ev ρ)) (mx.map (ev ρ))).run P w = .ok (0, 0, 0) w) : PureOp P ty (.slice t x lo hi mx) ρ (.slice none 0 0) := by
  obtain ⟨ti, h2, h3, h4, h5, h6, h7⟩ := c.out
  intro w
  refine lift_value ?_
  rw [hx]
  simp only [Instr.sliceAt, Sem.run_bind, run_underlying h2, Result.andThen_ok, Instr.slice, hw w, sizeOf, typeInfo]
  simp [h3]
/-- What a function that may write a slice of its caller's does. -/
def MutW (P : Program) (f : FuncId) (args : List Value) (w0 : World) (H0 H : Mem) (w : World) (blk : Option Nat) (R : Value → World → Prop) : Prop :=
  Calls P f args.toArray w fun e w' => ∃ v, e = .returned v ∧ St w0 H0 H w' ∧ w.grownBy w' blk ∧ R v w'
theorem p_sliceL {t e : TypeId} {sz bytes : Nat} {z : Value} [c : Slc P t e sz bytes z] {x y : Operand} {b o n cap l r o' c' : Nat} {k : IntKind} {a : Int}
    (hx : ev ρ x = .slice (some ⟨b, o, none⟩) n cap) (hy : ev ρ y = .int k a) (ha : a = l) (hr : l + r = n) (hc : l + c' = cap) (hlt : l < cap) (ho : o' = o + l * sz) : PureOp P ty (.slice t x (some y) none none) ρ (.slice (some ⟨b, o', none⟩) r c') := by
  subst ha
  have := p_slice (P := P) (ty := ty) (t := t) (sz := sz) (lo := some y) (hi := none) (mx := none) (l := l) (h := n) (m := cap) hx (fun w => by
    have := sb_l (P := P) (n := n) (cap := cap) (k := k) (a := (l : Int)) (by omega) (by omega) w
    simpa [hy] using this)
  rw [if_neg (by omega)] at this
  subst ho hr hc
  simpa using this
theorem p_sliceH {t e : TypeId} {sz bytes : Nat} {z : Value} [c : Slc P t e sz bytes z] {x y : Operand} {b o n cap h : Nat} {k : IntKind} {a : Int}
    (hx : ev ρ x = .slice (some ⟨b, o, none⟩) n cap) (hy : ev ρ y = .int k a) (ha : a = h) (hc : h ≤ cap) : PureOp P ty (.slice t x none (some y) none) ρ (.slice (some ⟨b, o, none⟩) h cap) := by
  subst ha
  have := p_slice (P := P) (ty := ty) (t := t) (sz := sz) (lo := none) (hi := some y) (mx := none) (l := 0) (h := h) (m := cap) hx (fun w => by
    have := sb_h (P := P) (n := n) (cap := cap) (k' := k) (b := (h : Int)) (by omega) (by omega) w
    simpa [hy] using this)
  simpa using this
theorem p_sliceHM {t e : TypeId} {sz bytes : Nat} {z : Value} [c : Slc P t e sz bytes z] {x y u : Operand} {b o n cap h m : Nat} {k k' : IntKind} {a a' : Int}
    (hx : ev ρ x = .slice (some ⟨b, o, none⟩) n cap) (hy : ev ρ y = .int k a) (hu : ev ρ u = .int k' a') (ha : a = h) (ha' : a' = m) (hc : h ≤ m) (hm : m ≤ cap) : PureOp P ty (.slice t x none (some y) (some u)) ρ (.slice (some ⟨b, o, none⟩) h m) := by
  subst ha ha'
  have := p_slice (P := P) (ty := ty) (t := t) (sz := sz) (lo := none) (hi := some y) (mx := some u) (l := 0) (h := h) (m := m) hx (fun w => by
    have := sb_hm (P := P) (n := n) (cap := cap) (k := k) (k' := k') (b := (h : Int)) (m := (m : Int)) (by omega) (by omega) (by omega) w
    simpa [hy, hu] using this)
  simpa using this
theorem p_sliceLH {t e : TypeId} {sz bytes : Nat} {z : Value} [c : Slc P t e sz bytes z] {x y u : Operand} {b o n cap l h r o' c' : Nat} {k k' : IntKind} {a a' : Int}
    (hx : ev ρ x = .slice (some ⟨b, o, none⟩) n cap) (hy : ev ρ y = .int k a) (hu : ev ρ u = .int k' a') (ha : a = l) (ha' : a' = h) (hr : l + r = h) (hc : l + c' = cap) (hh : h ≤ cap) (hlt : l < cap) (ho : o' = o + l * sz) : PureOp P ty (.slice t x (some y) (some u) none) ρ (.slice (some ⟨b, o', none⟩) r c') := by
  subst ha ha'
  have := p_slice (P := P) (ty := ty) (t := t) (sz := sz) (lo := some y) (hi := some u) (mx := none) (l := l) (h := h) (m := cap) hx (fun w => by
    have := sb_lh (P := P) (n := n) (cap := cap) (k := k) (k' := k') (a := (l : Int)) (b := (h : Int)) (by omega) (by omega) (by omega) w
    simpa [hy, hu] using this)
  rw [if_neg (by omega)] at this
  subst ho hr hc
  simpa using this
end
end Go.Proofs.FW
