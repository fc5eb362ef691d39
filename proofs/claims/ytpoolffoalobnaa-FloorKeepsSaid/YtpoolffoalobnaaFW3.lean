/- Lemmas on the way to a statement of this seat: rules for walks, contracts of functions, and plain facts; each is proved, under the conditions that stand in it. -/
import Derived.Test.YtpoolffoalobnaaFW2
import Derived.Laws.Strings
import Derived.Deep.Draws
set_option linter.all false
namespace Go.Proofs.FW
open Go Go.RowKit

theorem grownBy_setRow (w : World) (g : Nat) (cs : Array Value) : w.grownBy (w.setRow g cs) (some g) :=
  ⟨rfl, rfl, rfl, by simp, fun k _ hk => setRow_other w g k cs (fun e => hk (by rw [e]))⟩
theorem grownBy_drew (w : World) (row : Option Nat) : w.grownBy w.drew row := ⟨rfl, rfl, rfl, Nat.le_refl _, fun _ _ _ => rfl⟩

/-! ### what is one's own -/
/-- A block of one's own. -/
structure MineB (w0 : World) (H : Mem) (w : World) (g : Nat) (cs : List Value) (e : TypeId) : Prop where
  blk : Blk w g cs e
  off : Off H g
  base : w0.heap.size ≤ g
/-- A slice of one's own. -/
structure Mine (w0 : World) (H : Mem) (w : World) (e : TypeId) (sz : Nat) (v : Value) (n : Nat) (cs : List Value) : Prop where
  own : w.ownsRow w0.heap.size e sz v n cs
  off : ∀ g, v.ownBlock = some g → Off H g

section
variable {w0 w w' : World} {H0 H H' : Mem} {g n sz : Nat} {cs : List Value} {e : TypeId} {v : Value}
theorem grownBy_below {w w' : World} (hb : Below w.heap.size w w') : w.grownBy w' none := ⟨hb.os, hb.tape, hb.output, hb.size, fun k hk _ => hb.block k hk⟩
theorem MineB.grow {row : Option Nat} (m : MineB w0 H w g cs e) (hg : w.grownBy w' row) (hr : some g ≠ row) : MineB w0 H w' g cs e := ⟨m.blk.grown hg hr, m.off, m.base⟩
theorem MineB.grow0 (m : MineB w0 H w g cs e) (hg : w.grownBy w' none) : MineB w0 H w' g cs e := m.grow hg (by simp)
theorem MineB.call (m : MineB w0 H w g cs e) (c : St w H H' w') : MineB w0 H' w' g cs e := ⟨m.blk.call c, m.off.call c m.blk.lt, m.base⟩
theorem MineB.mem (m : MineB w0 H w g cs e) (he : ∀ o, H' g o = H g o) : MineB w0 H' w g cs e := ⟨m.blk, fun o => (he o).trans (m.off o), m.base⟩
theorem Mine.grow {row : Option Nat} (m : Mine w0 H w e sz v n cs) (hg : w.grownBy w' row) (hr : v.ownBlock = none ∨ v.ownBlock ≠ row) : Mine w0 H w' e sz v n cs := ⟨m.own.kept hg hr, m.off⟩
theorem Mine.grow0 (m : Mine w0 H w e sz v n cs) (hg : w.grownBy w' none) : Mine w0 H w' e sz v n cs := m.grow hg (by cases v.ownBlock <;> simp)
theorem Mine.call (m : Mine w0 H w e sz v n cs) (c : St w H H' w') : Mine w0 H' w' e sz v n cs :=
  ⟨(m.grow0 (grownBy_below c.below)).own, fun g hg => (m.off g hg).call c (m.own.lt g hg).2⟩
theorem Mine.nil (w0 : World) (H : Mem) (w : World) (e : TypeId) (sz : Nat) : Mine w0 H w e sz (.slice none 0 0) 0 [] := ⟨World.ownsRow_nil w _ e sz, fun g hg => by simp [Value.ownBlock] at hg⟩
theorem Mine.len (m : Mine w0 H w e sz v n cs) : cs.length = n * sz := m.own.1
/-- Laid open, where it is not nil. -/
theorem Mine.cases (m : Mine w0 H w e sz v n cs) : (v = .slice none 0 0 ∧ n = 0 ∧ cs = []) ∨
    ∃ g cap rest, v = .slice (some ⟨g, 0, none⟩) n cap ∧ MineB w0 H w g (cs ++ rest) e ∧ n ≤ cap ∧ cap ≤ maxLen ∧ (cs ++ rest).length = cap * sz := by
  rcases m.own.2 with ⟨hv, hn⟩ | ⟨g, cap, cur, hv, hb, hg, hnc, hcm, hcs, ht⟩
  · exact .inl ⟨hv, hn, List.eq_nil_of_length_eq_zero (by rw [m.own.1, hn]; simp)⟩
  · refine .inr ⟨g, cap, cur.toList.drop (n * sz), hv, ⟨?_, m.off g (by simp [hv, Value.ownBlock]), hb⟩, hnc, hcm, ?_⟩
    · unfold Blk
      rw [← ht, List.take_append_drop, Array.toArray_toList]
      exact hg
    · rw [← ht, List.take_append_drop]
      simpa using hcs
theorem Mine.mk' {g cap : Nat} {rest : List Value} (m : MineB w0 H w g (cs ++ rest) e) (hl : cs.length = n * sz) (hnc : n ≤ cap) (hcm : cap ≤ maxLen) (hc : (cs ++ rest).length = cap * sz) :
    Mine w0 H w e sz (.slice (some ⟨g, 0, none⟩) n cap) n cs :=
  ⟨⟨hl, .inr ⟨g, cap, _, rfl, m.base, m.blk, hnc, hcm, by simpa using hc, by simp [← hl]⟩⟩, fun k hk => by simp [Value.ownBlock] at hk; subst hk; exact m.off⟩
end

/-! ### rules that write -/
section
variable {P : Program} {ops : Array Oper} {rest : List Oper} {ρ : Env} {w : World} {Q : Env → World → Prop} {d : Option Tmp} {ty : TypeId} {pos : String} {af : Array Edge} {v : Value}

/-- An operation that leaves v, and that world. -/
def To (P : Program) (ty : TypeId) (o : Op) (ρ : Env) (w : World) (v : Value) (w' : World) : Prop :=
  (execOp (ev ρ) { dst := none, op := o, type := ty, pos := "", after := #[], guard := none }).run P w = .ok (.value v) w' ∨
  (v = undef ∧ (execOp (ev ρ) { dst := none, op := o, type := ty, pos := "", after := #[], guard := none }).run P w = .ok .skip w')
theorem opV_to {o : Op} {w' : World} {K : Value → World → Prop} (hp : To P ty o ρ w v w') (h : K v w') : opV P ty o ρ w K := by
  unfold opV
  rcases hp with hp | ⟨rfl, hp⟩
  · rw [hp]; exact h
  · rw [hp]; exact h
theorem r_to {o : Op} {w' : World} (hp : To P ty o ρ w v w') (h : Q (put ρ d v) w') : ost P (o) ty d ρ w Q := opV_to hp h
theorem to_value {s : Sem Value} {w w' : World} (h : s.run P w = .ok v w') : (do pure (.value (← s)) : Sem Next).run P w = .ok (.value v) w' := by
  rw [Sem.run_bind, h]; rfl
theorem to_skip {s : Sem Unit} {w w' : World} (h : s.run P w = .ok () w') : (do s; pure .skip : Sem Next).run P w = .ok .skip w' := by
  rw [Sem.run_bind, h]; rfl

theorem t_store1 {t : TypeId} {x y : Operand} {g o : Nat} {cs : List Value} {e : TypeId} [c : Shp P t false 1] (hx : ev ρ x = .pointer (some ⟨g, o, none⟩)) (hy : ev ρ y = v) (hv : v.oneCell' = true)
    (hb : Blk w g cs e) (ho : o < cs.length) : To P ty (.store t x y) ρ w undef (w.setRow g (cs.set o v).toArray) := by
  refine .inr ⟨rfl, to_skip ?_⟩
  obtain ⟨dd, i, h1, h2, h3, h4⟩ := c.out
  have hc : v.cells = #[v] := by cases v <;> simp_all [Value.cells, Value.oneCell']
  have hst := run_storeCells_at P g o e [v] 0 cs.toArray w hb (by simp; omega) (by simpa using hv)
  rw [hx, hy]
  simp only [Instr.storeAt, Instr.sureAddr, storeVar, sizeOf, typeInfo, hc]
  simp [h2, h4, hst, List.set_eq_take_append_cons_drop, ho]
theorem t_storeN {t : TypeId} {x y : Operand} {g o : Nat} {cs vs : List Value} {e : TypeId} [c : Shp P t true vs.length] (hx : ev ρ x = .pointer (some ⟨g, o, none⟩)) (hy : ev ρ y = .agg vs.toArray) (hv : ∀ v ∈ vs, v.oneCell' = true)
    (hb : Blk w g cs e) (ho : o + vs.length ≤ cs.length) : To P ty (.store t x y) ρ w undef (w.setRow g (cs.take o ++ vs ++ cs.drop (o + vs.length)).toArray) := by
  refine .inr ⟨rfl, to_skip ?_⟩
  obtain ⟨dd, i, h1, h2, h3, h4⟩ := c.out
  have hst := run_storeCells_at P g o e vs 0 cs.toArray w hb (by simpa using ho) hv
  rw [hx, hy]
  simp only [Instr.storeAt, Instr.sureAddr, storeVar, sizeOf, typeInfo, Value.cells]
  simp [h2, h4, hst]
theorem t_box {t : TypeId} {x : Operand} (hx : ev ρ x = v) : To P ty (.box t x) ρ w (.pointer (some ⟨w.heap.size, 0, none⟩)) (w.alloc (.cells v.cells t)) := by
  refine .inl (to_value ?_)
  rw [hx]
  simp [Instr.box, newVar, newRow]
theorem t_alloc {t : TypeId} {z : Value} [c : Zro P t z] : To P ty (.alloc t) ρ w (.pointer (some ⟨w.heap.size, 0, none⟩)) (w.alloc (.cells z.cells t)) := by
  obtain ⟨i, h1, h2⟩ := c.out
  refine .inl (to_value ?_)
  simp [Instr.alloc, zeroValue, typeInfo, h1, h2, newVar, newRow]
theorem t_buildSlice0 {t e : TypeId} {sz bytes : Nat} {z : Value} [c : Slc P t e sz bytes z] : To P ty (.buildSlice t 0 #[]) ρ w (.slice (some ⟨w.heap.size, 0, none⟩) 0 0) (w.alloc (.cells #[] e)) := by
  obtain ⟨ti, h2, h3, h4, h5, h6, h7⟩ := c.out
  refine .inl (to_value ?_)
  have he : (Array.map (fun _ => (default : Value)) (Array.range 0)) = #[] := by simp
  simp [Instr.buildSlice, run_underlying h2, sizeOf, typeInfo, h3, newRow, Instr.fill, he]
theorem t_buildSlice {t e : TypeId} {sz bytes : Nat} {z : Value} [c : Slc P t e sz bytes z] {len : Nat} {parts : Array (Nat × Operand)} {ps : List (Nat × Value)} {cells : List Value} (hp : (parts.toList.map fun (i, x) => (i, ev ρ x)) = ps)
    (hpos : (Nat.beq (len * sz) 0) = false) (hsmall : Nat.ble (len * sz) 16777216 = true)
    (hf : Instr.fill (fun i => some (i * sz, sz)) ((List.range (len * sz)).map (z.cells[· % z.cells.size]!)).toArray ps = some cells.toArray) :
    To P ty (.buildSlice t len parts) ρ w (.slice (some ⟨w.heap.size, 0, none⟩) len len) (w.alloc (.cells cells.toArray e)) := by
  obtain ⟨ti, h2, h3, h4, h5, h6, h7⟩ := c.out
  subst h5
  have h8 := Nat.le_of_ble_eq_true hsmall
  have h9 : ¬ len * ti.size = 0 := fun h0 => by rw [h0] at hpos; cases hpos
  refine .inl (to_value ?_)
  have he : (Array.range (len * ti.size)).map (z.cells[· % z.cells.size]!) = ((List.range (len * ti.size)).map (z.cells[· % z.cells.size]!)).toArray := by
    apply Array.ext'; rw [Array.toList_map, Array.toList_range]
  exact run_buildSlice w t e len _ cells.toArray ti z h2 h3 h4 (by omega) h9 (by rw [he]; subst hp; rw [← hf, Array.toList_map])

/-! the same, the worlds behind names -/
theorem e_store1 {t : TypeId} {x y : Operand} {g o : Nat} {cs : List Value} {e : TypeId} {w0 : World} {H : Mem} [c : Shp P t false 1] (hx : ev ρ x = .pointer (some ⟨g, o, none⟩)) (hm : MineB w0 H w g cs e) (hy : ev ρ y = v) (hv : v.oneCell' = true)
    (ho : o < cs.length) (h : ∀ w', w.grownBy w' (some g) → MineB w0 H w' g (cs.set o v) e → Q ρ w') : ost P (.store t x y) ty none ρ w Q :=
  r_to (t_store1 hx hy hv hm.blk ho) (h _ (grownBy_setRow _ _ _) ⟨setRow_heap w g _ _ e _ hm.blk, hm.off, hm.base⟩)
theorem e_storeN {t : TypeId} {x y : Operand} {g o : Nat} {cs vs : List Value} {e : TypeId} {w0 : World} {H : Mem} [c : Shp P t true vs.length] (hx : ev ρ x = .pointer (some ⟨g, o, none⟩)) (hm : MineB w0 H w g cs e) (hy : ev ρ y = .agg vs.toArray) (hv : ∀ v ∈ vs, v.oneCell' = true)
    (ho : o + vs.length ≤ cs.length) (h : ∀ w', w.grownBy w' (some g) → MineB w0 H w' g (cs.take o ++ vs ++ cs.drop (o + vs.length)) e → Q ρ w') : ost P (.store t x y) ty none ρ w Q :=
  r_to (t_storeN hx hy hv hm.blk ho) (h _ (grownBy_setRow _ _ _) ⟨setRow_heap w g _ _ e _ hm.blk, hm.off, hm.base⟩)
/-- A new block: its number, and the world behind. -/
theorem new_block {w0 : World} {H0 H : Mem} {cs : Array Value} {t : TypeId} (hs : St w0 H0 H w) : ∃ g w', g = w.heap.size ∧ w' = w.alloc (.cells cs t) ∧ w.grownBy w' none ∧ MineB w0 H w' g cs.toList t :=
  ⟨_, _, rfl, rfl, World.grownBy_alloc _ _ _, ⟨by unfold Blk; rw [Array.toArray_toList]; exact heap_alloc_new w _, hs.mem.off (Nat.le_refl _), hs.size⟩⟩
theorem e_box {t : TypeId} {x : Operand} {w0 : World} {H0 H : Mem} {cs : List Value} (hx : ev ρ x = v) (hc : v.cells.toList = cs) (hs : St w0 H0 H w)
    (h : ∀ g w', w.heap.size ≤ g → w.grownBy w' none → MineB w0 H w' g cs t → Q (put ρ d (.pointer (some ⟨g, 0, none⟩))) w') : ost P (.box t x) ty d ρ w Q := by
  subst hc
  obtain ⟨g, w', h1, h2, h3, h4⟩ := new_block (cs := v.cells) (t := t) hs
  refine r_to (t_box hx) ?_
  rw [← h2, ← h1]
  exact h g w' (by omega) h3 h4
theorem e_alloc {t : TypeId} {z : Value} [c : Zro P t z] {w0 : World} {H0 H : Mem} {cs : List Value} (hs : St w0 H0 H w) (hc : z.cells.toList = cs)
    (h : ∀ g w', w.heap.size ≤ g → w.grownBy w' none → MineB w0 H w' g cs t → Q (put ρ d (.pointer (some ⟨g, 0, none⟩))) w') : ost P (.alloc t) ty d ρ w Q := by
  subst hc
  obtain ⟨g, w', h1, h2, h3, h4⟩ := new_block (cs := z.cells) (t := t) hs
  refine r_to t_alloc ?_
  rw [← h2, ← h1]
  exact h g w' (by omega) h3 h4
theorem e_buildSlice0 {t e : TypeId} {sz bytes : Nat} {z : Value} [c : Slc P t e sz bytes z] {w0 : World} {H0 H : Mem} (hs : St w0 H0 H w)
    (h : ∀ g w', w.heap.size ≤ g → w.grownBy w' none → MineB w0 H w' g [] e → Mine w0 H w' e sz (.slice (some ⟨g, 0, none⟩) 0 0) 0 [] → Q (put ρ d (.slice (some ⟨g, 0, none⟩) 0 0)) w') : ost P (.buildSlice t 0 #[]) ty d ρ w Q := by
  obtain ⟨g, w', h1, h2, h3, h4⟩ := new_block (cs := #[]) (t := e) hs
  refine r_to t_buildSlice0 ?_
  rw [← h2, ← h1]
  exact h g w' (by omega) h3 h4 (Mine.mk' (rest := []) h4 (by simp) (Nat.le_refl _) (by simp [maxLen]) (by simp))
theorem e_buildSlice {t e : TypeId} {sz bytes : Nat} {z : Value} [c : Slc P t e sz bytes z] {len : Nat} {parts : Array (Nat × Operand)} {ps : List (Nat × Value)} {cells : List Value} {w0 : World} {H0 H : Mem} (hs : St w0 H0 H w)
    (hp : (parts.toList.map fun (i, x) => (i, ev ρ x)) = ps) (hpos : (Nat.beq (len * sz) 0) = false) (hsmall : Nat.ble (len * sz) 16777216 = true)
    (hf : Instr.fill (fun i => some (i * sz, sz)) ((List.range (len * sz)).map (z.cells[· % z.cells.size]!)).toArray ps = some cells.toArray)
    (h : ∀ g w', w.heap.size ≤ g → w.grownBy w' none → MineB w0 H w' g cells e → Q (put ρ d (.slice (some ⟨g, 0, none⟩) len len)) w') : ost P (.buildSlice t len parts) ty d ρ w Q := by
  obtain ⟨g, w', h1, h2, h3, h4⟩ := new_block (cs := cells.toArray) (t := e) hs
  refine r_to (t_buildSlice hp hpos hsmall hf) ?_
  rw [← h2, ← h1]
  exact h g w' (by omega) h3 (by simpa using h4)

theorem a_append_nil {t e : TypeId} {sz bytes : Nat} {z : Value} [c : Slc P t e sz bytes z] {x y : Operand} {w0 : World} {H : Mem} {n : Nat} {cs : List Value} {tt : Array TypeId} (hx : ev ρ x = v) (hy : ev ρ y = .slice none 0 0)
    (ht : tt = #[t, t]) (hm : Mine w0 H w e sz v n cs) : At P ty (.call { callee := .builtin .append, args := #[x, y], argTypes := tt }) ρ w v := by
  obtain ⟨ti, h2, h3, h4, h5, h6, h7⟩ := c.out
  subst ht
  have key : (Builtin.append_ #[t, t] ty #[v, .slice none 0 0]).run P w = .ok v w := by
    rcases hm.cases with ⟨rfl, rfl, rfl⟩ | ⟨g, cap, rest, rfl, hb, hnc, hcm, hl⟩
    · simp [Builtin.append_, run_underlying h2, sizeOf, typeInfo, h3, Builtin.lenOf, Builtin.firstCells]
    · simp [Builtin.append_, run_underlying h2, sizeOf, typeInfo, h3, Builtin.lenOf, Builtin.firstCells, hnc, storeCells]
  unfold At
  simp only [execOp, resolve, invoke, builtin, Sem.run_bind, Sem.run_pure, Result.andThen_ok, List.map_toArray, List.map_cons, List.map_nil, hx, hy, key]

theorem e_append {t e : TypeId} {sz bytes : Nat} {z : Value} [c : Slc P t e sz bytes z] {x y : Operand} {w0 : World} {H0 H : Mem} {n m b o cap : Nat} {cs news : List Value} {tt : Array TypeId} (hs : St w0 H0 H w)
    (hx : ev ρ x = v) (hy : ev ρ y = .slice (some ⟨b, o, none⟩) m cap) (ht : tt = #[t, t]) (hm : Mine w0 H w e sz v n cs) (hl : news.length = m * sz)
    (hnews : ∀ (j : Nat) u, news[j]? = some u → w.cell? ⟨b, o + j, none⟩ = some u) (h1 : ∀ u ∈ news, u.oneCell' = true) (hsz : 0 < sz) (h63 : n + m ≤ maxLen) (hbytes : (n + m) * bytes ≤ 140737488355328)
    (h : ∀ v' w', w.grownBy w' v.ownBlock → St w0 H0 H w' → Mine w0 H w' e sz v' (n + m) (cs ++ news) → Q (put ρ d v') w') :
    ost P (.call { callee := .builtin .append, args := #[x, y], argTypes := tt }) ty d ρ w Q := by
  obtain ⟨ti, h2, h3, h4, h5, h6, h7⟩ := c.out
  subst ht h5 h6
  have hadd : ∀ j, (⟨b, o, none⟩ : Addr).add j = ⟨b, o + j, none⟩ := fun j => by unfold Addr.add; split <;> simp_all
  have hnews' : ∀ (j : Nat) u, news[j]? = some u → w.cell? ((⟨b, o, none⟩ : Addr).add j) = some u := fun j u hu => by rw [hadd]; exact hnews j u hu
  have hmax : n + m ≤ 9223372036854775807 := by simp only [maxLen] at h63; omega
  have fin : ∀ v' w', (Builtin.append_ #[t, t] ty #[v, .slice (some ⟨b, o, none⟩) m cap]).run P w = .ok v' w' → w.grownBy w' v.ownBlock → St w0 H0 H w' → Mine w0 H w' e ti.size v' (n + m) (cs ++ news) →
      ost P (.call { callee := .builtin .append, args := #[x, y], argTypes := #[t, t] }) ty d ρ w Q := by
    intro v' w' hr h1 h2 h3
    refine r_to (w' := w') (v := v') (.inl ?_) (h v' w' h1 h2 h3)
    simp only [execOp, resolve, invoke, builtin, Sem.run_bind, Sem.run_pure, Result.andThen_ok, List.map_toArray, List.map_cons, List.map_nil, hx, hy, hr]
  have hlen : (cs ++ news).length = (n + m) * ti.size := by rw [List.length_append, hm.len, hl, Nat.add_mul]
  -- the block that a growth makes
  have grown : ∀ old, old < n + m → ∀ w', w' = w.drew.alloc (.cells (cs.toArray ++ news.toArray ++ Builtin.zeroCells z.cells (grownCap w (n + m) old e - (n + m))) e) →
      w.grownBy w' none ∧ St w0 H0 H w' ∧ Mine w0 H w' e ti.size (.slice (some ⟨w.heap.size, 0, none⟩) (n + m) (grownCap w (n + m) old e)) (n + m) (cs ++ news) := by
    intro old ho w' hw'
    have hge := grownCap_ge w (n + m) old e
    have hcm : grownCap w (n + m) old e ≤ maxLen := grownCap_le_maxLen w (n + m) old e h63
    have hg1 : w.grownBy w' none := by subst hw'; exact ⟨rfl, rfl, rfl, by simp, fun k hk _ => heap_alloc_old w.drew _ k hk⟩
    refine ⟨hg1, hs.grow hg1, Mine.mk' (rest := (Builtin.zeroCells z.cells (grownCap w (n + m) old e - (n + m))).toList) ⟨?_, hs.mem.off (Nat.le_refl _), hs.size⟩ hlen hge hcm ?_⟩
    · subst hw'
      unfold Blk
      rw [show w.heap.size = w.drew.heap.size from rfl, heap_alloc_new]
      simp
    · rw [List.length_append, hlen, Array.length_toList, size_zeroCells, h7, ← Nat.add_mul]
      congr 1
      omega
  rcases hm.cases with ⟨rfl, rfl, rfl⟩ | ⟨g, c', rst, rfl, hb, hnc, hcm, hcl⟩
  · by_cases hz : m = 0
    · subst hz
      have hn : news = [] := List.eq_nil_of_length_eq_zero (by simpa using hl)
      subst hn
      refine fin _ w ?_ ⟨rfl, rfl, rfl, Nat.le_refl _, fun _ _ _ => rfl⟩ hs (by simpa using Mine.nil w0 H w e ti.size)
      simp [Builtin.append_, run_underlying h2, sizeOf, typeInfo, h3, Builtin.lenOf, Builtin.firstCells, loadCells, loadCellsFrom]
    · have hr := run_append_nil (P := P) w t ty e ti z h2 h3 h4 ⟨b, o, none⟩ m cap news hl hnews' (by omega) (by omega) (by simp at hbytes; omega)
      obtain ⟨h8, h9, h10⟩ := grown 0 (by omega) _ rfl
      simp only [Nat.zero_add, List.nil_append] at h8 h9 h10 hr ⊢
      refine fin _ _ (by simpa using hr) ?_ ?_ ?_
      · simpa [Value.ownBlock] using h8
      · simpa using h9
      · simpa using h10
  · by_cases hroom : n + m ≤ c'
    · have hr := run_append_room (P := P) w t ty e ti h2 h3 g n c' (cs ++ rst).toArray hb.blk ⟨b, o, none⟩ m cap news hl hnews' h1 hroom (by
        rw [hl, List.size_toArray, hcl, ← Nat.add_mul]; exact Nat.mul_le_mul_right _ hroom)
      have hset : ((cs ++ rst).toArray.toList.take (n * ti.size) ++ news ++ (cs ++ rst).toArray.toList.drop (n * ti.size + news.length)) = (cs ++ news) ++ rst.drop news.length := by
        rw [← hm.len, List.take_left, ← List.drop_drop, List.drop_left]
      rw [hset] at hr
      have hlr : m * ti.size ≤ rst.length := by
        have e1 : cs.length + rst.length = c' * ti.size := by rw [← List.length_append]; exact hcl
        have e2 := Nat.mul_le_mul_right ti.size hroom
        rw [Nat.add_mul] at e2
        have e3 := hm.len
        omega
      have hg1 := grownBy_setRow w g ((cs ++ news) ++ rst.drop news.length).toArray
      refine fin _ _ hr (by simpa [Value.ownBlock] using hg1) (hs.write hg1 hb.base hb.off) (Mine.mk' (rest := rst.drop news.length) ⟨setRow_heap w g _ _ e _ hb.blk, hb.off, hb.base⟩ hlen hroom hcm ?_)
      rw [List.length_append, List.length_append, List.length_drop, ← hcl, List.length_append]
      omega
    · have holds : ∀ (j : Nat) u, cs[j]? = some u → w.cell? ((⟨g, 0, none⟩ : Addr).add j) = some u := fun j u hu => by
        have : (⟨g, 0, none⟩ : Addr).add j = ⟨g, j, none⟩ := by unfold Addr.add; split <;> simp_all
        rw [this]
        refine hb.blk.cell ?_
        rw [List.getElem?_append_left (List.getElem?_eq_some_iff.1 hu).1]
        exact hu
      have hr := run_append_grow (P := P) w t ty e ti z h2 h3 h4 ⟨g, 0, none⟩ n c' cs hm.len holds ⟨b, o, none⟩ m cap news hl hnews' (by omega) (by omega) (growslice_fits (by omega) hbytes)
      obtain ⟨h8, h9, h10⟩ := grown c' (by omega) _ rfl
      exact fin _ _ hr ⟨h8.os, h8.tape, h8.output, h8.size, fun k hk _ => h8.block k hk (by simp)⟩ h9 h10
end
end Go.Proofs.FW
