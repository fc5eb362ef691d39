/- Lemmas on the way to a statement of this seat: rules for walks, contracts of functions, and plain facts; each is proved, under the conditions that stand in it. -/
import Derived.Test.YtpoolffoalobnaaFW1
import Derived.Below
import Derived.IntWalk
import Derived.Great.BuildSlice
set_option linter.all false
namespace Go.Proofs.FW
open Go Go.RowKit

/-! ### facts of types -/
def isAggD : TypeDesc → Bool | .struct _ | .array _ _ => true | _ => false
def shpB (P : Program) (t : TypeId) : Option (Bool × Nat) :=
  match P.underlying t, P.info? t with | some d, some i => some (isAggD d, i.size) | _, _ => none
def fldB (P : Program) (s : TypeId) (f : Nat) : Option (Nat × Bool × Nat) :=
  match P.underlying s with
  | some (.struct fs) => match fs[f]? with
    | some fd => match shpB P fd.type with | some (a, n) => some (fd.offset, a, n) | none => none
    | none => none
  | _ => none
def slcB (P : Program) (t : TypeId) : Option (TypeId × Nat × Nat × Value) :=
  match P.underlying t with
  | some (.slice e) => (match P.info? e with
    | some i => (match i.zero with
      | some z => (if z.cells.size = i.size then some (e, i.size, i.bytes, z) else none)
      | none => none)
    | none => none)
  | _ => none
def zroB (P : Program) (t : TypeId) : Option Value := match P.info? t with | some i => i.zero | none => none

class Shp (P : Program) (t : TypeId) (agg : outParam Bool) (n : outParam Nat) : Prop where
  h : shpB P t = some (agg, n)
class Fld (P : Program) (s : TypeId) (f : Nat) (off : outParam Nat) (agg : outParam Bool) (n : outParam Nat) : Prop where
  h : fldB P s f = some (off, agg, n)
class Slc (P : Program) (t : TypeId) (e : outParam TypeId) (sz bytes : outParam Nat) (z : outParam Value) : Prop where
  h : slcB P t = some (e, sz, bytes, z)
class Zro (P : Program) (t : TypeId) (z : outParam Value) : Prop where
  h : zroB P t = some z

section
variable {P : Program}
theorem Shp.out {t : TypeId} {a : Bool} {n : Nat} (s : Shp P t a n) : ∃ d i, P.underlying t = some d ∧ P.info? t = some i ∧ isAggD d = a ∧ i.size = n := by
  have h := s.h
  unfold shpB at h
  split at h
  · rename_i d i hd hi
    simp only [Option.some.injEq, Prod.mk.injEq] at h
    exact ⟨d, i, hd, hi, h.1, h.2⟩
  · cases h
theorem Fld.out {s : TypeId} {f off : Nat} {a : Bool} {n : Nat} (c : Fld P s f off a n) : ∃ fs fd d i, P.underlying s = some (.struct fs) ∧ fs[f]? = some fd ∧ P.underlying fd.type = some d ∧ P.info? fd.type = some i ∧ fd.offset = off ∧ isAggD d = a ∧ i.size = n := by
  have h := c.h
  unfold fldB at h
  split at h
  · rename_i fs hs
    split at h
    · rename_i fd hf
      split at h
      · rename_i a' n' hsh
        simp only [Option.some.injEq, Prod.mk.injEq] at h
        obtain ⟨d, i, h1, h2, h3, h4⟩ := Shp.out (P := P) ⟨hsh⟩
        exact ⟨fs, fd, d, i, hs, hf, h1, h2, h.1, h.2.1 ▸ h3, h.2.2 ▸ h4⟩
      · cases h
    · cases h
  · cases h
theorem Slc.out {t e : TypeId} {sz bytes : Nat} {z : Value} (s : Slc P t e sz bytes z) : ∃ i, P.underlying t = some (.slice e) ∧ P.info? e = some i ∧ i.zero = some z ∧ i.size = sz ∧ i.bytes = bytes ∧ z.cells.size = sz := by
  have h := s.h
  unfold slcB at h
  split at h
  · rename_i e' he
    split at h
    · rename_i i hi
      split at h
      · rename_i z' hz
        split at h
        · rename_i hsz
          simp only [Option.some.injEq, Prod.mk.injEq] at h
          obtain ⟨rfl, rfl, rfl, rfl⟩ := h
          exact ⟨i, he, hi, hz, rfl, rfl, hsz⟩
        · cases h
      · cases h
    · cases h
  · cases h
theorem Zro.out {t : TypeId} {z : Value} (s : Zro P t z) : ∃ i, P.info? t = some i ∧ i.zero = some z := by
  have h := s.h
  unfold zroB at h
  split at h
  · rename_i i hi; exact ⟨i, hi, h⟩
  · cases h
end

/-! ### blocks, and memory that nobody writes -/
def Blk (w : World) (g : Nat) (cs : List Value) (e : TypeId) : Prop := w.heap[g]? = some (.cells cs.toArray e (0, 0))

abbrev Mem := Nat → Nat → Option Value
def Mem.le (H H' : Mem) : Prop := ∀ b o v, H b o = some v → H' b o = some v
def In (H : Mem) (w : World) : Prop := ∀ b o v, H b o = some v → w.cell? ⟨b, o, none⟩ = some v
structure Ext (B : Nat) (H H' : Mem) : Prop where
  le : H.le H'
  fresh : ∀ b, b < B → ∀ o, H' b o = H b o
structure St (w0 : World) (H0 H : Mem) (w : World) : Prop where
  mem : In H w
  below : Below w0.heap.size w0 w
  ext : Ext w0.heap.size H0 H
def Off (H : Mem) (g : Nat) : Prop := ∀ o, H g o = none

theorem Mem.le_refl (H : Mem) : H.le H := fun _ _ _ h => h
theorem Mem.le_trans {a b c : Mem} (h : a.le b) (k : b.le c) : a.le c := fun _ _ _ x => k _ _ _ (h _ _ _ x)
theorem cell_lt {w : World} {b o : Nat} {v : Value} (h : w.cell? ⟨b, o, none⟩ = some v) : b < w.heap.size := World.block_lt_of_cell? w ⟨b, o, none⟩ h
theorem In.off {H : Mem} {w : World} (h : In H w) {g : Nat} (hg : w.heap.size ≤ g) : Off H g := by
  intro o
  cases hv : H g o with
  | none => rfl
  | some v => have := cell_lt (h _ _ _ hv); omega
theorem In.grown {H : Mem} {w w' : World} {row : Option Nat} (h : In H w) (hg : w.grownBy w' row) (hr : ∀ g, row = some g → Off H g) : In H w' := by
  intro b o v hv
  refine hg.cell (h _ _ _ hv) fun e => ?_
  have := hr b e.symm o
  rw [hv] at this
  cases this
theorem In.below {H : Mem} {w w' : World} (h : In H w) (hb : Below w.heap.size w w') : In H w' := by
  intro b o v hv
  have h1 := h _ _ _ hv
  exact (hb.cell (cell_lt h1)).trans h1

theorem St.init {H : Mem} {w : World} (h : In H w) : St w H H w := ⟨h, Below.refl _ _, Mem.le_refl _, fun _ _ _ => rfl⟩
section
variable {w0 w w' : World} {H0 H H' : Mem}
theorem St.grow (s : St w0 H0 H w) (hg : w.grownBy w' none) : St w0 H0 H w' :=
  ⟨s.mem.grown hg (fun _ e => by cases e), s.below.grown hg s.below.size (fun _ e => by cases e), s.ext⟩
theorem St.write (s : St w0 H0 H w) {g : Nat} (hg : w.grownBy w' (some g)) (hb : w0.heap.size ≤ g) (ho : Off H g) : St w0 H0 H w' :=
  ⟨s.mem.grown hg (fun k e => by cases e; exact ho), s.below.grown hg s.below.size (fun k e => by cases e; exact hb), s.ext⟩
theorem St.call (s : St w0 H0 H w) (c : St w H H' w') : St w0 H0 H' w' :=
  ⟨c.mem, s.below.trans (c.below.mono s.below.size), Mem.le_trans s.ext.le c.ext.le, fun b hb o => (c.ext.fresh b (Nat.lt_of_lt_of_le hb s.below.size) o).trans (s.ext.fresh b hb o)⟩
theorem St.size (s : St w0 H0 H w) : w0.heap.size ≤ w.heap.size := s.below.size
theorem St.le (s : St w0 H0 H w) : H0.le H := s.ext.le
theorem Blk.lt {w : World} {g : Nat} {cs : List Value} {e : TypeId} (h : Blk w g cs e) : g < w.heap.size := (Array.getElem?_eq_some_iff.1 h).1
theorem Blk.grown {g : Nat} {cs : List Value} {e : TypeId} {row : Option Nat} (h : Blk w g cs e) (hg : w.grownBy w' row) (hr : some g ≠ row) : Blk w' g cs e :=
  (hg.block g h.lt hr).trans h
theorem Blk.call {g : Nat} {cs : List Value} {e : TypeId} (h : Blk w g cs e) (c : St w H H' w') : Blk w' g cs e := (c.below.block g h.lt).trans h
theorem Off.call {g : Nat} (h : Off H g) (c : St w H H' w') (hg : g < w.heap.size) : Off H' g := fun o => (c.ext.fresh g hg o).trans (h o)
theorem Blk.cell {g o : Nat} {cs : List Value} {e : TypeId} {v : Value} (h : Blk w g cs e) (hv : cs[o]? = some v) : w.cell? ⟨g, o, none⟩ = some v := by
  unfold Blk at h
  simp [World.cell?, h, hv]
theorem Blk.frozen {g o : Nat} {cs : List Value} {e : TypeId} (h : Blk w g cs e) : w.frozen? ⟨g, o, none⟩ = false := by
  unfold Blk at h
  simp [World.frozen?, h]
/-- The cells of a block of one's own are memory from now on. -/
def Mem.pub (H : Mem) (g : Nat) (cs : List Value) : Mem := fun b o => bif Nat.beq b g then cs[o]? else H b o
theorem Mem.pub_own (H : Mem) (g : Nat) (cs : List Value) (o : Nat) : H.pub g cs g o = cs[o]? := by unfold Mem.pub; rw [Nat.beq_refl]; rfl
theorem Mem.pub_other (H : Mem) {g b : Nat} (cs : List Value) (o : Nat) (h : b ≠ g) : H.pub g cs b o = H b o := by
  unfold Mem.pub
  have : Nat.beq b g = false := by
    cases hb : Nat.beq b g with
    | false => rfl
    | true => exact absurd (Nat.eq_of_beq_eq_true hb) h
  rw [this]; rfl
theorem Mem.le_pub {H : Mem} {g : Nat} (h : Off H g) (cs : List Value) : H.le (H.pub g cs) := by
  intro b o v hv
  rcases Decidable.em (b = g) with rfl | hne
  · rw [h o] at hv; cases hv
  · rw [Mem.pub_other H cs o hne]; exact hv
theorem St.pub (s : St w0 H0 H w) {g : Nat} {cur cs : List Value} {e : TypeId} (hb : Blk w g cur e) (hcs : ∀ (o : Nat) (v : Value), cs[o]? = some v → cur[o]? = some v) (ho : Off H g) (hg : w0.heap.size ≤ g) : St w0 H0 (H.pub g cs) w := by
  refine ⟨?_, s.below, Mem.le_trans s.ext.le (Mem.le_pub ho cs), ?_⟩
  · intro b o v hv
    rcases Decidable.em (b = g) with rfl | hne
    · rw [Mem.pub_own] at hv; exact hb.cell (hcs _ _ hv)
    · rw [Mem.pub_other H cs o hne] at hv; exact s.mem _ _ _ hv
  · intro b hlt o
    rw [Mem.pub_other H cs o (by omega)]
    exact s.ext.fresh b hlt o
end

/-! ### what a call asks and gives -/
/-- f, called with these, hands back a value of which R holds, in memory that goes on from H; nothing of what there was is written. -/
def Fnc (P : Program) (f : FuncId) (args : List Value) (H : Mem) (w : World) (R : Mem → Value → Prop) : Prop :=
  Calls P f args.toArray w fun e w' => ∃ v, e = .returned v ∧ ∃ H', St w H H' w' ∧ R H' v

/-- As Fnc; the value is a row of cells of its own besides. -/
def FncW (P : Program) (f : FuncId) (args : List Value) (H : Mem) (w : World) (R : Mem → Value → World → Prop) : Prop :=
  Calls P f args.toArray w fun e w' => ∃ v, e = .returned v ∧ ∃ H', St w H H' w' ∧ R H' v w'

/-! ### rules -/
def PureOp (P : Program) (ty : TypeId) (o : Op) (ρ : Env) (v : Value) : Prop :=
  ∀ w, (execOp (ev ρ) { dst := none, op := o, type := ty, pos := "", after := #[], guard := none }).run P w = .ok (.value v) w
/-- In this world. -/
def At (P : Program) (ty : TypeId) (o : Op) (ρ : Env) (w : World) (v : Value) : Prop :=
  (execOp (ev ρ) { dst := none, op := o, type := ty, pos := "", after := #[], guard := none }).run P w = .ok (.value v) w

section
variable {P : Program} {ops : Array Oper} {rest : List Oper} {ρ : Env} {w : World} {Q : Env → World → Prop} {d : Option Tmp} {ty : TypeId} {pos : String} {af : Array Edge} {v : Value} {o : Op}

/-- One operation, and what is asked behind it. -/
def ost (P : Program) (o : Op) (ty : TypeId) (d : Option Tmp) (ρ : Env) (w : World) (Q : Env → World → Prop) : Prop := opV P ty o ρ w fun v w' => Q (put ρ d v) w'
/-- The operations of a region, one behind the other. -/
def oL (P : Program) (l : List Oper) (ops : Array Oper) (ρ : Env) (w : World) (Q : Env → World → Prop) : Prop := opsV P ops l ρ w Q
theorem oL_nil (h : Q ρ w) : oL P [] ops ρ w Q := h
theorem oL_cons (h : ost P o ty d ρ w fun ρ' w' => oL P rest ops ρ' w' Q) : oL P (⟨d, o, ty, pos, af, none⟩ :: rest) ops ρ w Q := h
theorem r_at (hp : At P ty o ρ w v) (h : Q (put ρ d v) w) : ost P o ty d ρ w Q := by
  show opV P ty o ρ w _
  unfold opV
  rw [hp]
  exact h
theorem r_pure (hp : PureOp P ty o ρ v) (h : Q (put ρ d v) w) : ost P o ty d ρ w Q := r_at (hp w) h
/-- Behind a guard that is open, and behind one that is shut. -/
theorem r_yes {j : Nat} {b : Bool} (hy : yv ops ρ j = some b) (h : ost P o ty d ρ w fun ρ' w' => oL P rest ops ρ' w' Q) : oL P (⟨d, o, ty, pos, af, some (j, b)⟩ :: rest) ops ρ w Q := by
  unfold oL
  show operV P ops _ ρ w _
  unfold operV
  simp only [hy, beq_self_eq_true, cond_true]
  exact h
theorem r_no {j : Nat} {b c : Bool} (hy : yv ops ρ j = some b) (hne : (b == c) = false) (h : oL P rest ops (put ρ d undef) w Q) : oL P (⟨d, o, ty, pos, af, some (j, c)⟩ :: rest) ops ρ w Q := by
  unfold oL
  show operV P ops _ ρ w _
  unfold operV
  simp only [hy, hne, cond_false]
  exact h

/-! drawn regions -/
theorem q_at {S : World → Prop} {K : Value → Prop} (hp : ∀ w, S w → At P ty o ρ w v) (h : K v) : quietO P S ⟨d, o, ty, pos, af, none⟩ ρ K := ⟨v, fun w hs => hp w hs, h⟩
section
variable {S : World → Prop} {i : Nat} {p : Plan}
theorem d_q {S : World → Prop} {i : Nat} {p : Plan} (hn : nth ops.toList i = some ⟨d, o, ty, pos, af, none⟩) (hp : ∀ w, S w → At P ty o ρ w v) (h : drawV P ops S Q p (put ρ d v) w) : drawV P ops S Q (.q i p) ρ w := by
  unfold drawV
  rw [hn]
  exact ⟨v, fun w hs => hp w hs, h⟩
theorem d_qp (hn : nth ops.toList i = some ⟨d, o, ty, pos, af, none⟩) (hp : PureOp P ty o ρ v) (h : drawV P ops S Q p (put ρ d v) w) : drawV P ops S Q (.q i p) ρ w := d_q hn (fun w _ => hp w) h
theorem d_qyes {j : Nat} {b : Bool} (hn : nth ops.toList i = some ⟨d, o, ty, pos, af, some (j, b)⟩) (hy : yv ops ρ j = some b) (hp : ∀ w, S w → At P ty o ρ w v) (h : drawV P ops S Q p (put ρ d v) w) : drawV P ops S Q (.q i p) ρ w := by
  unfold drawV
  rw [hn]
  show quietV P ops S _ ρ _
  unfold quietV
  simp only [hy, beq_self_eq_true, cond_true]
  exact ⟨v, fun w hs => hp w hs, h⟩
theorem d_qpyes {j : Nat} {b : Bool} (hn : nth ops.toList i = some ⟨d, o, ty, pos, af, some (j, b)⟩) (hy : yv ops ρ j = some b) (hp : PureOp P ty o ρ v) (h : drawV P ops S Q p (put ρ d v) w) : drawV P ops S Q (.q i p) ρ w := d_qyes hn hy (fun w _ => hp w) h
theorem d_qno {j : Nat} {b c : Bool} (hn : nth ops.toList i = some ⟨d, o, ty, pos, af, some (j, c)⟩) (hy : yv ops ρ j = some b) (hne : (b == c) = false) (h : drawV P ops S Q p (put ρ d undef) w) : drawV P ops S Q (.q i p) ρ w := by
  unfold drawV
  rw [hn]
  show quietV P ops S _ ρ _
  unfold quietV
  simp only [hy, hne, cond_false]
  exact h
theorem d_e1 {e : Oper} (hn : nth ops.toList i = some e) (h : operV P ops e ρ w fun ρ' w' => (skipB ops i = false → S w') ∧ drawV P ops S Q p ρ' w') : drawV P ops S Q (.e1 i p) ρ w := by
  unfold drawV
  rw [hn]
  exact h
theorem d_done (h : Q ρ w) : drawV P ops S Q .done ρ w := h
end

/-! operations that only compute -/
theorem p_move {x : Operand} (hx : ev ρ x = v) : PureOp P ty (.move x) ρ v := by intro w; simp [execOp, hx]
theorem p_assign {x : Operand} (hx : ev ρ x = v) : PureOp P ty (.assign x) ρ v := by intro w; simp [execOp, hx]
theorem p_nilCheck {x : Operand} {a : Addr} (hx : ev ρ x = .pointer (some a)) : PureOp P ty (.nilCheck x) ρ (.pointer (some a)) := by intro w; simp [execOp, hx]
theorem p_pick {c x y : Operand} {b : Bool} (hc : ev ρ c = .bool b) (hv : (bif b then ev ρ x else ev ρ y) = v) : PureOp P ty (.pick c x y) ρ v := by
  intro w; subst hv; cases b <;> simp [execOp, hc, asBool]
theorem run_fieldAt {s : TypeId} {f off n : Nat} {a : Bool} [c : Fld P s f off a n] (hn : n ≠ 0) (b o : Nat) (w : World) :
    (Instr.fieldAt s (.pointer (some ⟨b, o, none⟩)) f).run P w = .ok (.pointer (some ⟨b, o + off, none⟩)) w := by
  obtain ⟨fs, fd, d, i, h1, h2, h3, h4, h5, h6, h7⟩ := c.out
  have : (⟨b, o, none⟩ : Addr).add fd.offset = ⟨b, o + off, none⟩ := by rw [h5]; unfold Addr.add; split <;> simp_all
  simp [Instr.fieldAt, run_underlying h1, h2, Instr.sureAddr, fieldPlace, sizeOf, typeInfo, h4, h7, hn, this]
theorem lift_value {s : Sem Value} {w : World} (h : s.run P w = .ok v w) : (do pure (.value (← s)) : Sem Next).run P w = .ok (.value v) w := by
  rw [Sem.run_bind, h]; rfl
theorem p_fieldAddr {s : TypeId} {x : Operand} {f off n b o : Nat} {a : Bool} [c : Fld P s f off a (n + 1)] (hx : ev ρ x = .pointer (some ⟨b, o, none⟩)) :
    PureOp P ty (.fieldAddr s x f) ρ (.pointer (some ⟨b, o + off, none⟩)) := by
  intro w
  refine lift_value ?_
  rw [hx]
  exact run_fieldAt (n := n + 1) (by omega) b o w
theorem run_loadAt1 {t : TypeId} [c : Shp P t false 1] {b o : Nat} {w : World} (hv : w.cell? ⟨b, o, none⟩ = some v) : (Instr.loadAt t (.pointer (some ⟨b, o, none⟩))).run P w = .ok v w := by
  obtain ⟨d, i, h1, h2, h3, h4⟩ := c.out
  cases d <;> first | (simp [isAggD] at h3; done) | (simp [Instr.loadAt, Instr.sureAddr, loadVar, isAgg, run_underlying h1, hv])
theorem run_loadAtN {t : TypeId} {b o : Nat} {cs : List Value} [c : Shp P t true cs.length] {w : World} (hv : ∀ (j : Nat) (v : Value), cs[j]? = some v → w.cell? ⟨b, o + j, none⟩ = some v) :
    (Instr.loadAt t (.pointer (some ⟨b, o, none⟩))).run P w = .ok (.agg cs.toArray) w := by
  obtain ⟨d, i, h1, h2, h3, h4⟩ := c.out
  have hl := run_loadCells_list (P := P) w ⟨b, o, none⟩ cs (fun j v hj => by
    have : (⟨b, o, none⟩ : Addr).add j = ⟨b, o + j, none⟩ := by unfold Addr.add; split <;> simp_all
    rw [this]; exact hv j v hj)
  cases d <;> first | (simp [isAggD] at h3; done) | (simp [Instr.loadAt, Instr.sureAddr, loadVar, isAgg, run_underlying h1, sizeOf, typeInfo, h2, h4, hl])
theorem a_load {t : TypeId} [c : Shp P t false 1] {x : Operand} {b o : Nat} (hx : ev ρ x = .pointer (some ⟨b, o, none⟩)) (hv : w.cell? ⟨b, o, none⟩ = some v) : At P ty (.load t x) ρ w v := by
  refine lift_value ?_
  rw [hx]
  exact run_loadAt1 hv
theorem a_loadB {t : TypeId} [c : Shp P t false 1] {x : Operand} {b o : Nat} {cs : List Value} {e : TypeId} (hx : ev ρ x = .pointer (some ⟨b, o, none⟩)) (hb : Blk w b cs e) (hv : cs[o]? = some v) : At P ty (.load t x) ρ w v := a_load hx (hb.cell hv)
theorem a_loadH {t : TypeId} [c : Shp P t false 1] {x : Operand} {b o : Nat} {H : Mem} (hx : ev ρ x = .pointer (some ⟨b, o, none⟩)) (hs : In H w) (hv : H b o = some v) : At P ty (.load t x) ρ w v := a_load hx (hs _ _ _ hv)
theorem a_loadS {t : TypeId} [c : Shp P t false 1] {x : Operand} {b o : Nat} {H0 H : Mem} {w0 : World} (hx : ev ρ x = .pointer (some ⟨b, o, none⟩)) (hs : St w0 H0 H w) (hv : H b o = some v) : At P ty (.load t x) ρ w v := a_load hx (hs.mem _ _ _ hv)
theorem a_loadN {t : TypeId} {x : Operand} {b o : Nat} {cs : List Value} [c : Shp P t true cs.length] (hx : ev ρ x = .pointer (some ⟨b, o, none⟩)) (hv : ∀ (j : Nat) (v : Value), cs[j]? = some v → w.cell? ⟨b, o + j, none⟩ = some v) : At P ty (.load t x) ρ w (.agg cs.toArray) := by
  refine lift_value ?_
  rw [hx]
  exact run_loadAtN hv
theorem run_indexAt {t e : TypeId} {sz bytes : Nat} {z : Value} [c : Slc P t e sz bytes z] {b o n cap : Nat} {k : IntKind} {i : Int} (h0 : 0 ≤ i) (h1 : i < n) (w : World) :
    (Instr.indexAt t (.slice (some ⟨b, o, none⟩) n cap) (.int k i)).run P w = .ok (.pointer (some ⟨b, o + i.toNat * sz, none⟩)) w := by
  obtain ⟨ti, h2, h3, h4, h5, h6, h7⟩ := c.out
  have : (⟨b, o, none⟩ : Addr).add (i.toNat * sz) = ⟨b, o + i.toNat * sz, none⟩ := by unfold Addr.add; split <;> simp_all
  simp [Instr.indexAt, asIntOf, run_underlying h2, sizeOf, typeInfo, h3, h5, h0, h1, this]
theorem p_indexAddr {t e : TypeId} {sz bytes : Nat} {z : Value} [c : Slc P t e sz bytes z] {x y : Operand} {b o n cap : Nat} {k : IntKind} {i : Int} (hx : ev ρ x = .slice (some ⟨b, o, none⟩) n cap) (hy : ev ρ y = .int k i)
    (h0 : 0 ≤ i) (h1 : i < n) : PureOp P ty (.indexAddr t x y) ρ (.pointer (some ⟨b, o + i.toNat * sz, none⟩)) := by
  intro w
  refine lift_value ?_
  rw [hx, hy]
  exact run_indexAt h0 h1 w
theorem p_extract {x : Operand} {i : Nat} {vs : Array Value} (hx : ev ρ x = .tuple vs) (hv : vs[i]? = some v) : PureOp P ty (.extract x i) ρ v := by
  intro w
  refine lift_value ?_
  rw [hx]
  simp [Instr.extract, hv]
theorem p_field1 {s : TypeId} {x : Operand} {f off : Nat} {cs : Array Value} [c : Fld P s f off false 1] (hx : ev ρ x = .agg cs) (hv : cs[off]? = some v) : PureOp P ty (.field s x f) ρ v := by
  obtain ⟨fs, fd, d, i, h1, h2, h3, h4, h5, h6, h7⟩ := c.out
  intro w
  refine lift_value ?_
  rw [hx]
  cases d <;> first | (simp [isAggD] at h6; done) | simp [Instr.field, run_underlying h1, h2, part, isAgg, run_underlying h3, asAgg, h5, hv]
theorem p_fieldN {s : TypeId} {x : Operand} {f off n : Nat} {cs : Array Value} {l : List Value} [c : Fld P s f off true n] (hx : ev ρ x = .agg cs) (hv : (cs.extract off (off + n)) = l.toArray) : PureOp P ty (.field s x f) ρ (.agg l.toArray) := by
  obtain ⟨fs, fd, d, i, h1, h2, h3, h4, h5, h6, h7⟩ := c.out
  intro w
  refine lift_value ?_
  rw [hx]
  cases d <;> first | (simp [isAggD] at h6; done) | simp [Instr.field, run_underlying h1, h2, part, isAgg, run_underlying h3, asAgg, h5, sizeOf, typeInfo, h4, h7, hv]
theorem p_makeFunc {fn : Go.Fn} {a b : Array Operand} {a' b' : List Value} (ha : a.toList.map (ev ρ) = a') (hb : b.toList.map (ev ρ) = b') : PureOp P ty (.makeFunc fn a b) ρ (.func fn a'.toArray b'.toArray) := by
  intro w; subst ha hb; simp [execOp, Instr.makeFunc]
  exact ⟨by rw [← Array.toList_map], by rw [← Array.toList_map]⟩
theorem p_not {t : TypeId} {x : Operand} {b : Bool} (hx : ev ρ x = .bool b) : PureOp P ty (.unOp .not t x) ρ (.bool (!b)) := by
  intro w; simp [execOp, hx, Op.unary]
theorem p_notd {t : TypeId} {x : Operand} {p : Prop} [Decidable p] (hx : ev ρ x = .bool (decide p)) : PureOp P ty (.unOp .not t x) ρ (.bool (decide (¬ p))) := by
  intro w; simp [execOp, hx, Op.unary]
section
variable {t u : TypeId} {x y : Operand} {k : IntKind} {a b : Int}
theorem eqGuard_int {op : BinOp} {x y : Operand} {m n : Value} (hm : ∀ cs, m ≠ .agg cs) (hn : m ≠ .nilIface) (w : World) : (eqGuard op t x y m n).run P w = .ok () w := by
  unfold eqGuard
  cases m <;> first | (exact absurd rfl hn) | (exact absurd rfl (hm _)) | (cases op <;> simp)
theorem lift_bin {op : BinOp} {m n : Value} (hx : ev ρ x = m) (hy : ev ρ y = n) (hm : ∀ cs, m ≠ .agg cs) (hn : m ≠ .nilIface) (h : ∀ w, (binOp op t m n).run P w = .ok v w) : PureOp P ty (.binOp op t x y u) ρ v := by
  intro w
  refine lift_value ?_
  rw [hx, hy, Sem.run_bind, eqGuard_int hm hn w]
  exact h w
theorem p_add (hx : ev ρ x = .int k a) (hy : ev ρ y = .int k b) : PureOp P ty (.binOp .add t x y u) ρ (.int k (k.wrap (a + b))) := lift_bin hx hy (by simp) (by simp) (by simp [binOp, Op.intArith])
theorem p_sub (hx : ev ρ x = .int k a) (hy : ev ρ y = .int k b) : PureOp P ty (.binOp .sub t x y u) ρ (.int k (k.wrap (a - b))) := lift_bin hx hy (by simp) (by simp) (by simp [binOp, Op.intArith])
theorem p_mul (hx : ev ρ x = .int k a) (hy : ev ρ y = .int k b) : PureOp P ty (.binOp .mul t x y u) ρ (.int k (k.wrap (a * b))) := lift_bin hx hy (by simp) (by simp) (by simp [binOp, Op.intArith])
theorem p_add64 (hx : ev ρ x = .int .i64 a) (hy : ev ρ y = .int .i64 b) (hr : -9223372036854775808 ≤ a + b ∧ a + b ≤ 9223372036854775807) : PureOp P ty (.binOp .add t x y u) ρ (.int .i64 (a + b)) := by
  have h := p_add (P := P) (ty := ty) (t := t) (u := u) hx hy; rwa [IntWalk.i64_in _ hr] at h
theorem p_sub64 (hx : ev ρ x = .int .i64 a) (hy : ev ρ y = .int .i64 b) (hr : -9223372036854775808 ≤ a - b ∧ a - b ≤ 9223372036854775807) : PureOp P ty (.binOp .sub t x y u) ρ (.int .i64 (a - b)) := by
  have h := p_sub (P := P) (ty := ty) (t := t) (u := u) hx hy; rwa [IntWalk.i64_in _ hr] at h
theorem p_mul64 (hx : ev ρ x = .int .i64 a) (hy : ev ρ y = .int .i64 b) (hr : -9223372036854775808 ≤ a * b ∧ a * b ≤ 9223372036854775807) : PureOp P ty (.binOp .mul t x y u) ρ (.int .i64 (a * b)) := by
  have h := p_mul (P := P) (ty := ty) (t := t) (u := u) hx hy; rwa [IntWalk.i64_in _ hr] at h
theorem p_quo64 (hx : ev ρ x = .int .i64 a) (hy : ev ρ y = .int .i64 b) (ha : 0 ≤ a) (ha' : a ≤ 9223372036854775807) (hb : 1 ≤ b) : PureOp P ty (.binOp .quo t x y u) ρ (.int .i64 (a / b)) :=
  lift_bin hx hy (by simp) (by simp) (fun w => by rw [← IntWalk.i64_quo a b ⟨ha, ha', hb⟩]; simp [binOp, Op.intDiv, show b ≠ 0 from by omega])
theorem p_rem64 (hx : ev ρ x = .int k a) (hy : ev ρ y = .int k b) (ha : 0 ≤ a) (hb : 1 ≤ b) : PureOp P ty (.binOp .rem t x y u) ρ (.int k (a % b)) :=
  lift_bin hx hy (by simp) (by simp) (fun w => by rw [← Int.tmod_eq_emod_of_nonneg ha]; simp [binOp, Op.intDiv, show b ≠ 0 from by omega])
theorem p_eq (hx : ev ρ x = .int k a) (hy : ev ρ y = .int k b) : PureOp P ty (.binOp .eql t x y u) ρ (.bool (decide (a = b))) := lift_bin hx hy (by simp) (by simp) (by intro w; simp [binOp, Op.intCmp]; rfl)
theorem p_ne (hx : ev ρ x = .int k a) (hy : ev ρ y = .int k b) : PureOp P ty (.binOp .neq t x y u) ρ (.bool (decide (a ≠ b))) := lift_bin hx hy (by simp) (by simp) (by intro w; simp [binOp, Op.intCmp]; rfl)
theorem p_lt (hx : ev ρ x = .int k a) (hy : ev ρ y = .int k b) : PureOp P ty (.binOp .lss t x y u) ρ (.bool (decide (a < b))) := lift_bin hx hy (by simp) (by simp) (by intro w; simp [binOp, Op.intCmp])
theorem p_le (hx : ev ρ x = .int k a) (hy : ev ρ y = .int k b) : PureOp P ty (.binOp .leq t x y u) ρ (.bool (decide (a ≤ b))) := lift_bin hx hy (by simp) (by simp) (by intro w; simp [binOp, Op.intCmp])
theorem p_gt (hx : ev ρ x = .int k a) (hy : ev ρ y = .int k b) : PureOp P ty (.binOp .gtr t x y u) ρ (.bool (decide (b < a))) := lift_bin hx hy (by simp) (by simp) (by intro w; simp [binOp, Op.intCmp])
theorem p_ge (hx : ev ρ x = .int k a) (hy : ev ρ y = .int k b) : PureOp P ty (.binOp .geq t x y u) ρ (.bool (decide (b ≤ a))) := lift_bin hx hy (by simp) (by simp) (by intro w; simp [binOp, Op.intCmp])
end
end
end Go.Proofs.FW
