/- Lemmas on the way to a statement of this seat: rules for walks, contracts of functions, and plain facts; each is proved, under the conditions that stand in it. -/
import Derived.Test.YtpoolffoalobnaaFW16
import Derived.Maps.RangeRun
import Derived.MapKept
set_option linter.all false
namespace Go.Proofs.FW
open Go Go.RowKit Go.MapKept

/-! ### maps of one's own, of numbers to numbers -/
class MapT (P : Program) (t : TypeId) (k e : outParam TypeId) : Prop where h : P.underlying t = some (.map k e)
def isK (a : Int) : Value → Bool | .int _ b => decide (b = a) | _ => false
def encI (p : Int × Int) : Value × Value := (.int .i64 p.1, .int .i64 p.2)
/-- A map of one's own, that has these pairs. -/
structure MineM (w0 : World) (H : Mem) (w : World) (g : Nat) (es : Array MapEntry) (clock : Nat) (L : List (Int × Int)) : Prop where
  blk : w.heap[g]? = some (.map es clock)
  off : Off H g
  base : w0.heap.size ≤ g
  st : Stamped es clock
  perm : (es.toList.map fun e => (e.key, e.val)).Perm (L.map encI)
section
variable {w0 w w' : World} {H0 H H' : Mem} {g clock : Nat} {es : Array MapEntry} {L L' : List (Int × Int)}
theorem MineM.lt (m : MineM w0 H w g es clock L) : g < w.heap.size := (Array.getElem?_eq_some_iff.1 m.blk).1
theorem MineM.grow {row : Option Nat} (m : MineM w0 H w g es clock L) (hg : w.grownBy w' row) (hr : some g ≠ row) : MineM w0 H w' g es clock L := ⟨(hg.block g m.lt hr).trans m.blk, m.off, m.base, m.st, m.perm⟩
theorem MineM.grow0 (m : MineM w0 H w g es clock L) (hg : w.grownBy w' none) : MineM w0 H w' g es clock L := m.grow hg (by simp)
theorem MineM.call (m : MineM w0 H w g es clock L) (c : St w H H' w') : MineM w0 H' w' g es clock L := ⟨(c.below.block g m.lt).trans m.blk, m.off.call c m.lt, m.base, m.st, m.perm⟩
theorem MineM.ints (m : MineM w0 H w g es clock L) {e : MapEntry} (he : e ∈ es.toList) : ∃ p ∈ L, e.key = .int .i64 p.1 ∧ e.val = .int .i64 p.2 := by
  have h1 : (e.key, e.val) ∈ L.map encI := m.perm.mem_iff.1 (List.mem_map.2 ⟨e, he, rfl⟩)
  obtain ⟨p, hp, h2⟩ := List.mem_map.1 h1
  simp only [encI, Prod.mk.injEq] at h2
  exact ⟨p, hp, h2.1.symm, h2.2.symm⟩
theorem MineM.entry (m : MineM w0 H w g es clock L) {p : Int × Int} (hp : p ∈ L) : ∃ e ∈ es.toList, e.key = .int .i64 p.1 ∧ e.val = .int .i64 p.2 := by
  have h1 : encI p ∈ es.toList.map fun e => (e.key, e.val) := m.perm.mem_iff.2 (List.mem_map.2 ⟨p, hp, rfl⟩)
  obtain ⟨e, he, h2⟩ := List.mem_map.1 h1
  simp only [encI, Prod.mk.injEq] at h2
  exact ⟨e, he, h2.1, h2.2⟩
theorem MineM.size (m : MineM w0 H w g es clock L) : es.size = L.length := by
  have := m.perm.length_eq
  simpa using this
theorem MineM.keyed (m : MineM w0 H w g es clock L) : ∀ x ∈ es.toList, IsKey (.int .i64) x.key := by
  intro x hx
  obtain ⟨p, _, h, _⟩ := m.ints hx
  rw [h]; simp [IsKey]
theorem MineM.of (m : MineM w0 H w g es clock L) (h : L.Perm L') : MineM w0 H w g es clock L' := ⟨m.blk, m.off, m.base, m.st, m.perm.trans (h.map _)⟩
end

theorem find_key {es : Array MapEntry} {clock : Nat} {L : List (Int × Int)} {w0 w : World} {H : Mem} {g : Nat} (m : MineM w0 H w g es clock L) (a : Int) :
    (Instr.findNow (.int .i64) (.int .i64 a) es.toList 0 = some none ∧ (∀ p ∈ L, p.1 ≠ a)) ∨ ∃ j e, Instr.findNow (.int .i64) (.int .i64 a) es.toList 0 = some (some (j, e.val)) ∧ es.toList[j]? = some e ∧ e.key = .int .i64 a ∧ ∃ p ∈ L, p.1 = a := by
  rcases findNow_spec (d := .int .i64) (k := .int .i64 a) (by simp [IsKey]) es.toList 0 m.keyed with ⟨h1, h2⟩ | ⟨j, e, h1, h2, h3⟩
  · refine .inl ⟨h1, fun p hp hpa => ?_⟩
    obtain ⟨e, he, h3, _⟩ := m.entry hp
    exact h2 e he (by rw [h3, hpa])
  · refine .inr ⟨j, e, by simpa using h1, h2, h3, ?_⟩
    obtain ⟨p, hp, h4, _⟩ := m.ints (List.mem_of_getElem? h2)
    refine ⟨p, hp, ?_⟩
    rw [h3] at h4
    simpa using h4.symm

section
variable {P : Program} {ρ : Env} {w : World} {Q : Env → World → Prop} {d : Option Tmp} {ty : TypeId} {v : Value} {w0 : World} {H0 H : Mem} {g clock : Nat} {es : Array MapEntry} {L : List (Int × Int)}
theorem e_makeMap {t : TypeId} (hs : St w0 H0 H w)
    (h : ∀ g w', w.heap.size ≤ g → w.grownBy w' none → St w0 H0 H w' → MineM w0 H w' g #[] 0 [] → Q (put ρ d (.map (some g))) w') : ost P (.makeMap t none) ty d ρ w Q := by
  have hg := World.grownBy_alloc w (.map #[] 0) none
  refine r_to (v := .map (some w.heap.size)) (w' := w.alloc (.map #[] 0)) (.inl (to_value rfl)) (h _ _ (Nat.le_refl _) hg (hs.grow hg) ⟨(MapKept.heap_alloc w _).1, hs.mem.off (Nat.le_refl _), hs.size, stamped_empty 0, by simp⟩)
theorem a_lookupOk {t k e : TypeId} [c : MapT P t k e] [c1 : IntT P k .i64] [c2 : Zro P e (.int .i64 0)] {x y : Operand} {a : Int} (m : MineM w0 H w g es clock L) (hx : ev ρ x = .map (some g)) (hy : ev ρ y = .int .i64 a) :
    ∃ v, At P ty (.lookup t x y true) ρ w (.tuple #[v, .bool (L.any fun p => decide (p.1 = a))]) := by
  have hk : ∀ n, (Instr.checkKey es.isEmpty (n + 1) k (.int .i64 a)).run P w = .ok () w := fun n => MapKept.run_checkKey c1.h (by simp [IsKey]) _ n
  have hk := hk 9999
  obtain ⟨zi, hz1, hz2⟩ := c2.out
  rcases find_key m a with ⟨h1, h2⟩ | ⟨j, e', h1, h2, h3, h4⟩
  · refine ⟨.int .i64 0, lift_value ?_⟩
    have hb : (L.any fun p => decide (p.1 = a)) = false := by rw [List.any_eq_false]; exact fun p hp => by simpa using h2 p hp
    rw [hx, hy, hb]
    simp [Instr.lookup, run_underlying c.h, MapKept.run_getObj_map m.blk, hk, MapKept.run_findKey c1.h h1, zeroValue, typeInfo, hz1, hz2]
  · refine ⟨e'.val, lift_value ?_⟩
    have hb : (L.any fun p => decide (p.1 = a)) = true := by rw [List.any_eq_true]; obtain ⟨p, hp, hpa⟩ := h4; exact ⟨p, hp, by simpa using hpa⟩
    rw [hx, hy, hb]
    simp [Instr.lookup, run_underlying c.h, MapKept.run_getObj_map m.blk, hk, MapKept.run_findKey c1.h h1]
theorem a_lenM {t k e : TypeId} [c : MapT P t k e] {x : Operand} {tt : Array TypeId} (m : MineM w0 H w g es clock L) (ht : tt = #[t]) (hx : ev ρ x = .map (some g)) :
    At P ty (.call { callee := .builtin .len, args := #[x], argTypes := tt }) ρ w (.int .i64 L.length) := by
  subst ht
  unfold At
  simp [execOp, resolve, invoke, builtin, Builtin.len_, hx, run_underlying c.h, MapKept.run_getObj_map m.blk, goInt, m.size]
/-- m[a] = n, of a key that is not there. -/
theorem e_mapNew {t k e : TypeId} [c : MapT P t k e] [c1 : IntT P k .i64] {x y z : Operand} {a n : Int} (hs : St w0 H0 H w) (m : MineM w0 H w g es clock L) (hno : ∀ p ∈ L, p.1 ≠ a) (hx : ev ρ x = .map (some g)) (hy : ev ρ y = .int .i64 a) (hz : ev ρ z = .int .i64 n)
    (h : ∀ w' es' clock', w.grownBy w' (some g) → St w0 H0 H w' → MineM w0 H w' g es' clock' ((a, n) :: L) → Q (put ρ d undef) w') : ost P (.mapUpdate t x y z) ty d ρ w Q := by
  have hk : ∀ n, (Instr.checkKey false (n + 1) k (.int .i64 a)).run P w = .ok () w := fun n => MapKept.run_checkKey c1.h (by simp [IsKey]) _ n
  have hk := hk 9999
  rcases find_key m a with ⟨h1, h2⟩ | ⟨j, e', h1, h2, h3, p, hp, h4⟩
  · have hne : ∀ x ∈ es.toList, x.key ≠ .int .i64 a := by
      intro x hx he
      obtain ⟨p, hp, h3, _⟩ := m.ints hx
      rw [he] at h3
      exact h2 p hp (by simpa using h3.symm)
    have hgb : w.grownBy { w with heap := w.heap.setIfInBounds g (.map (es.push { key := .int .i64 a, val := .int .i64 n, born := clock }) (clock + 1)) } (some g) :=
      ⟨rfl, rfl, rfl, by simp, fun i _ hi => (heap_set m.blk).2 i (fun e => hi (by rw [e]))⟩
    refine r_to (v := undef) (w' := { w with heap := w.heap.setIfInBounds g (.map (es.push { key := .int .i64 a, val := .int .i64 n, born := clock }) (clock + 1)) }) (.inr ⟨rfl, to_skip ?_⟩) (h _ (es.push { key := .int .i64 a, val := .int .i64 n, born := clock }) (clock + 1) hgb (hs.write hgb m.base m.off) ⟨(heap_set m.blk).1, m.off, m.base, stamped_push m.st hne, ?_⟩)
    · rw [hx, hy, hz]
      simp [Instr.mapUpdate, run_underlying c.h, MapKept.run_getObj_map m.blk, hk, MapKept.run_findKey c1.h h1, MapKept.run_setObj_map _ m.blk]
    · simp only [Array.toList_push, List.map_append, List.map_cons, List.map_nil]
      exact List.perm_append_comm.trans (.cons _ m.perm)
  · exact absurd h4 (hno p hp)
theorem e_mapDel {t k e : TypeId} [c : MapT P t k e] [c1 : IntT P k .i64] {x y : Operand} {a : Int} {tt : Array TypeId} (hs : St w0 H0 H w) (m : MineM w0 H w g es clock L) (ht : tt = #[t, k]) (hx : ev ρ x = .map (some g)) (hy : ev ρ y = .int .i64 a)
    (h : ∀ w' es', w.grownBy w' (some g) → St w0 H0 H w' → MineM w0 H w' g es' clock (L.filter fun p => !decide (p.1 = a)) → Q (put ρ d (.tuple #[])) w') : ost P (.call { callee := .builtin .delete, args := #[x, y], argTypes := tt }) ty d ρ w Q := by
  subst ht
  have hk : ∀ n, (Instr.checkKey es.isEmpty (n + 1) k (.int .i64 a)).run P w = .ok () w := fun n => MapKept.run_checkKey c1.h (by simp [IsKey]) _ n
  have hk := hk 9999
  have fin : ∀ es' : Array MapEntry, (Builtin.delete_ #[t, k] ty #[.map (some g), .int .i64 a]).run P w = .ok (.tuple #[]) { w with heap := w.heap.setIfInBounds g (.map es' clock) } → Stamped es' clock →
      (es'.toList.map fun e => (e.key, e.val)).Perm ((L.filter fun p => !decide (p.1 = a)).map encI) → ost P (.call { callee := .builtin .delete, args := #[x, y], argTypes := #[t, k] }) ty d ρ w Q := by
    intro es' hr hst hp
    have hgb : w.grownBy { w with heap := w.heap.setIfInBounds g (.map es' clock) } (some g) :=
      ⟨rfl, rfl, rfl, by simp, fun i _ hi => (heap_set m.blk).2 i (fun e => hi (by rw [e]))⟩
    refine r_to (v := .tuple #[]) (w' := { w with heap := w.heap.setIfInBounds g (.map es' clock) }) (.inl ?_) (h _ es' hgb (hs.write hgb m.base m.off) ⟨(heap_set m.blk).1, m.off, m.base, hst, hp⟩)
    simp only [execOp, resolve, invoke, builtin, Sem.run_bind, Sem.run_pure, Result.andThen_ok, List.map_toArray, List.map_cons, List.map_nil, hx, hy, hr]
  have hfilter : ((L.filter fun p => !decide (p.1 = a)).map encI) = (L.map encI).filter (fun q => !isK a q.1) := by
    rw [List.filter_map]
    congr 1
  rcases find_key m a with ⟨h1, h2⟩ | ⟨j, e', h1, h2, h3, h4⟩
  · refine fin es ?_ m.st ?_
    · simp [Builtin.delete_, run_underlying c.h, MapKept.run_getObj_map m.blk, hk, MapKept.run_findKey c1.h h1, MapKept.run_setObj_map _ m.blk]
    · have : (L.filter fun p => !decide (p.1 = a)) = L := List.filter_eq_self.2 fun p hp => by simpa using h2 p hp
      rw [this]; exact m.perm
  · have hj : j < es.size := by have := (List.getElem?_eq_some_iff.1 h2).1; simpa using this
    refine fin (es.eraseIdxIfInBounds j) ?_ (stamped_erase m.st j) ?_
    · simp [Builtin.delete_, run_underlying c.h, MapKept.run_getObj_map m.blk, hk, MapKept.run_findKey c1.h h1, MapKept.run_setObj_map _ m.blk]
    · rw [hfilter]
      refine List.Perm.trans ?_ (m.perm.filter _)
      have he : (es.eraseIdxIfInBounds j).toList = es.toList.eraseIdx j := by
        unfold Array.eraseIdxIfInBounds
        rw [dif_pos hj]
        simp
      rw [he, List.eraseIdx_eq_take_drop_succ]
      have hsplit : es.toList = es.toList.take j ++ e' :: es.toList.drop (j + 1) := by
        obtain ⟨hl, rfl⟩ := List.getElem?_eq_some_iff.1 h2
        rw [List.getElem_cons_drop, List.take_append_drop]
      have hnd : (es.toList.map (·.key)).Nodup := m.st.2.2
      rw [hsplit] at hnd
      conv => rhs; rw [hsplit]
      simp only [List.map_append, List.map_cons, List.filter_append, List.filter_cons, h3, show isK a (.int .i64 a) = true from decide_eq_true rfl, Bool.not_true, Bool.false_eq_true, if_false]
      rw [List.map_append, List.map_cons, List.nodup_append, List.nodup_cons] at hnd
      obtain ⟨_, ⟨n1, _⟩, n2⟩ := hnd
      have f1 : ∀ l : List MapEntry, (∀ x ∈ l, x ∈ es.toList ∧ x.key ≠ .int .i64 a) → (l.map fun e => (e.key, e.val)).filter (fun q => !isK a q.1) = l.map fun e => (e.key, e.val) := by
        intro l hl
        rw [List.filter_eq_self]
        intro q hq
        obtain ⟨x, hx, rfl⟩ := List.mem_map.1 hq
        obtain ⟨hm, hn⟩ := hl x hx
        obtain ⟨p, _, hk', _⟩ := m.ints hm
        rw [hk'] at hn ⊢
        simpa [isK] using hn
      rw [f1 (es.toList.take j) (fun x hx => ⟨List.mem_of_mem_take hx, fun he => n2 x.key (List.mem_map.2 ⟨x, hx, rfl⟩) e'.key (by simp) (by rw [he, h3])⟩), f1 (es.toList.drop (j + 1)) (fun x hx => ⟨List.mem_of_mem_drop hx, fun he => n1 (by rw [h3, ← he]; exact List.mem_map.2 ⟨x, hx, rfl⟩)⟩)]

/-- An iterator over a map of one's own, under way: these stamps are seen. -/
structure IterM (w0 : World) (H : Mem) (w : World) (r g clock : Nat) (seen : Array Nat) : Prop where
  blk : w.heap[r]? = some (.mapIter (some g) clock seen clock)
  off : Off H r
  base : w0.heap.size ≤ r
section
variable {w' : World} {H' : Mem} {r : Nat} {seen : Array Nat}
theorem IterM.lt (m : IterM w0 H w r g clock seen) : r < w.heap.size := (Array.getElem?_eq_some_iff.1 m.blk).1
theorem IterM.grow {row : Option Nat} (m : IterM w0 H w r g clock seen) (hg : w.grownBy w' row) (hr : some r ≠ row) : IterM w0 H w' r g clock seen := ⟨(hg.block r m.lt hr).trans m.blk, m.off, m.base⟩
theorem IterM.grow0 (m : IterM w0 H w r g clock seen) (hg : w.grownBy w' none) : IterM w0 H w' r g clock seen := m.grow hg (by simp)
theorem IterM.call (m : IterM w0 H w r g clock seen) (c : St w H H' w') : IterM w0 H' w' r g clock seen := ⟨(c.below.block r m.lt).trans m.blk, m.off.call c m.lt, m.base⟩
end
theorem e_range {t k e : TypeId} [c : MapT P t k e] {x : Operand} (hs : St w0 H0 H w) (m : MineM w0 H w g es clock L) (hx : ev ρ x = .map (some g))
    (h : ∀ r w', g ≠ r → w.heap.size ≤ r → w.grownBy w' none → St w0 H0 H w' → MineM w0 H w' g es clock L → IterM w0 H w' r g clock #[] → Q (put ρ d (.pointer (some ⟨r, 0, none⟩))) w') : ost P (.range t x) ty d ρ w Q := by
  have hg := World.grownBy_alloc w (.mapIter (some g) clock #[] clock) none
  have hr := run_range_map (P := P) w t k e g es clock c.h m.blk
  refine r_to (v := .pointer (some ⟨w.heap.size, 0, none⟩)) (w' := w.alloc (.mapIter (some g) clock #[] clock)) (.inl (to_value ?_)) (h _ _ (by have := m.lt; omega) (Nat.le_refl _) hg (hs.grow hg) (m.grow0 hg) ⟨(MapKept.heap_alloc w _).1, hs.mem.off (Nat.le_refl _), hs.size⟩)
  rw [hx]; exact hr
/-- The step: all are seen, or one that is not comes out. -/
theorem e_next {x : Operand} {r : Nat} {seen : Array Nat} (hs : St w0 H0 H w) (m : MineM w0 H w g es clock L) (i : IterM w0 H w r g clock seen) (hne : g ≠ r) (hx : ev ρ x = .pointer (some ⟨r, 0, none⟩))
    (h0 : (∀ y ∈ es.toList, seen.contains y.born = true) → Q (put ρ d (.tuple #[.bool false])) w)
    (h1 : ∀ y w', y ∈ es.toList → seen.contains y.born = false → w.grownBy w' (some r) → St w0 H0 H w' → MineM w0 H w' g es clock L → IterM w0 H w' r g clock (seen.push y.born) → Q (put ρ d (.tuple #[.bool true, y.key, y.val])) w') : ost P (.next x false) ty d ρ w Q := by
  rcases run_next_at (P := P) w ty r g clock clock seen es clock i.blk m.blk m.st.1 (Nat.le_refl _) with ⟨hz, hr⟩ | ⟨y, hy, w1, hw1, hr⟩
  · refine r_to (.inl (to_value (w' := w) (v := .tuple #[.bool false]) (by rw [hx]; exact hr))) (h0 fun y hy => ?_)
    unfold leftOf at hz
    have hem : Array.filter (fun e => !seen.contains e.born) es = #[] := Array.eq_empty_of_size_eq_zero hz
    rw [Array.filter_eq_empty_iff] at hem
    have := hem y (by simpa using hy)
    simpa using this
  · unfold leftOf at hy
    simp only [Array.toList_filter, List.mem_filter] at hy
    have hb1 : w1.heap = w.heap := by rcases hw1 with rfl | rfl <;> rfl
    have hgb : w.grownBy (ChangeMaps.setBlock w1 r (.mapIter (some g) clock (seen.push y.born) clock)) (some r) := by
      rcases hw1 with rfl | rfl
      all_goals exact ⟨rfl, rfl, rfl, by simp [ChangeMaps.setBlock], fun i' _ hi => (MapKept.heap_set i.blk).2 i' (fun e => hi (by rw [e]))⟩
    refine r_to (.inl (to_value (w' := ChangeMaps.setBlock w1 r (.mapIter (some g) clock (seen.push y.born) clock)) (v := .tuple #[.bool true, y.key, y.val]) (by rw [hx]; exact hr))) (h1 y _ hy.1 (by simpa using hy.2) hgb (hs.write hgb i.base i.off) (m.grow hgb (by simpa using hne)) ⟨?_, i.off, i.base⟩)
    have : w1.heap[r]? = some (.mapIter (some g) clock seen clock) := by rw [hb1]; exact i.blk
    exact (MapKept.heap_set this).1
theorem a_entry {x : Operand} {r : Nat} {seen : Array Nat} {y : MapEntry} (m : MineM w0 H w g es clock L) (i : IterM w0 H w r g clock (seen.push y.born)) (hy : y ∈ es.toList) (hx : ev ρ x = .pointer (some ⟨r, 0, none⟩)) :
    At P ty (.entry x) ρ w (.tuple #[y.key, y.val]) := by
  refine lift_value ?_
  rw [hx]
  exact run_entry_at w r g clock seen es clock y i.blk m.blk hy m.st.2.1
end
end Go.Proofs.FW
