/- Lemmas on the way to a statement of this seat: rules for walks, contracts of functions, and plain facts; each is proved, under the conditions that stand in it. -/
import Derived.Test.YtpoolffoalobnaaFW9
set_option linter.all false
namespace Go.Proofs.FW
open Go Go.RowKit
section
variable {P : Program} {ops : Array Oper} {rest : List Oper} {ρ : Env} {w : World} {Q : Env → World → Prop} {d : Option Tmp} {ty : TypeId} {pos : String} {af : Array Edge} {v : Value} {o : Op}
theorem yv_of {j dd : Nat} {b : Bool} {oj : Oper} (hn : nth ops.toList j = some oj) (hd : oj.dst = some dd) (hb : ρ dd = .bool b) : yv ops ρ j = some b := by
  unfold yv
  rw [← nth_arr, hn]
  simp [hd, hb]
theorem yv_nil {j dd : Nat} {oj : Oper} (hn : nth ops.toList j = some oj) (hd : oj.dst = some dd) (hb : ρ dd = undef) : yv ops ρ j = none := by
  unfold yv
  rw [← nth_arr, hn]
  simp [hd, hb, undef]
theorem r_nil {j : Nat} {c : Bool} (hy : yv ops ρ j = none) (h : oL P rest ops (put ρ d undef) w Q) : oL P (⟨d, o, ty, pos, af, some (j, c)⟩ :: rest) ops ρ w Q := by
  unfold oL
  show operV P ops _ ρ w _
  unfold operV
  simp only [hy]
  exact h
theorem g_nil {j dd : Nat} {c : Bool} {oj : Oper} (hn : nth ops.toList j = some oj) (hd : oj.dst = some dd) (hb : ρ dd = undef) (h : oL P rest ops (put ρ d undef) w Q) : oL P (⟨d, o, ty, pos, af, some (j, c)⟩ :: rest) ops ρ w Q := r_nil (yv_nil hn hd hb) h
theorem d_qnil {S : World → Prop} {i : Nat} {p : Plan} {j : Nat} {c : Bool} (hn : nth ops.toList i = some ⟨d, o, ty, pos, af, some (j, c)⟩) (hy : yv ops ρ j = none) (h : drawV P ops S Q p (put ρ d undef) w) : drawV P ops S Q (.q i p) ρ w := by
  unfold drawV
  rw [hn]
  show quietV P ops S _ ρ _
  unfold quietV
  simp only [hy]
  exact h
theorem g_yes {j dd : Nat} {b : Bool} {oj : Oper} (hn : nth ops.toList j = some oj) (hd : oj.dst = some dd) (hb : ρ dd = .bool b) (h : ost P o ty d ρ w fun ρ' w' => oL P rest ops ρ' w' Q) : oL P (⟨d, o, ty, pos, af, some (j, b)⟩ :: rest) ops ρ w Q := r_yes (yv_of hn hd hb) h
theorem g_no {j dd : Nat} {b c : Bool} {oj : Oper} (hn : nth ops.toList j = some oj) (hd : oj.dst = some dd) (hb : ρ dd = .bool b) (hne : (b == c) = false) (h : oL P rest ops (put ρ d undef) w Q) : oL P (⟨d, o, ty, pos, af, some (j, c)⟩ :: rest) ops ρ w Q := r_no (yv_of hn hd hb) hne h
/-- A bool that one has decided. -/
theorem eq_true_of {p : Prop} [Decidable p] (h : p) {b : Bool} (hb : b = decide p) : b = true := by rw [hb]; exact decide_eq_true h
theorem p_ltT {t u : TypeId} {x y : Operand} {k : IntKind} {a b : Int} (hx : ev ρ x = .int k a) (hy : ev ρ y = .int k b) (h : a < b) : PureOp P ty (.binOp .lss t x y u) ρ (.bool true) := by
  have := p_lt (P := P) (ty := ty) (t := t) (u := u) hx hy; rwa [decide_eq_true h] at this
theorem p_ltF {t u : TypeId} {x y : Operand} {k : IntKind} {a b : Int} (hx : ev ρ x = .int k a) (hy : ev ρ y = .int k b) (h : ¬ (a < b)) : PureOp P ty (.binOp .lss t x y u) ρ (.bool false) := by
  have := p_lt (P := P) (ty := ty) (t := t) (u := u) hx hy; rwa [decide_eq_false h] at this
theorem p_leT {t u : TypeId} {x y : Operand} {k : IntKind} {a b : Int} (hx : ev ρ x = .int k a) (hy : ev ρ y = .int k b) (h : a ≤ b) : PureOp P ty (.binOp .leq t x y u) ρ (.bool true) := by
  have := p_le (P := P) (ty := ty) (t := t) (u := u) hx hy; rwa [decide_eq_true h] at this
theorem p_leF {t u : TypeId} {x y : Operand} {k : IntKind} {a b : Int} (hx : ev ρ x = .int k a) (hy : ev ρ y = .int k b) (h : ¬ (a ≤ b)) : PureOp P ty (.binOp .leq t x y u) ρ (.bool false) := by
  have := p_le (P := P) (ty := ty) (t := t) (u := u) hx hy; rwa [decide_eq_false h] at this
theorem p_gtT {t u : TypeId} {x y : Operand} {k : IntKind} {a b : Int} (hx : ev ρ x = .int k a) (hy : ev ρ y = .int k b) (h : b < a) : PureOp P ty (.binOp .gtr t x y u) ρ (.bool true) := by
  have := p_gt (P := P) (ty := ty) (t := t) (u := u) hx hy; rwa [decide_eq_true h] at this
theorem p_gtF {t u : TypeId} {x y : Operand} {k : IntKind} {a b : Int} (hx : ev ρ x = .int k a) (hy : ev ρ y = .int k b) (h : ¬ (b < a)) : PureOp P ty (.binOp .gtr t x y u) ρ (.bool false) := by
  have := p_gt (P := P) (ty := ty) (t := t) (u := u) hx hy; rwa [decide_eq_false h] at this
theorem p_geT {t u : TypeId} {x y : Operand} {k : IntKind} {a b : Int} (hx : ev ρ x = .int k a) (hy : ev ρ y = .int k b) (h : b ≤ a) : PureOp P ty (.binOp .geq t x y u) ρ (.bool true) := by
  have := p_ge (P := P) (ty := ty) (t := t) (u := u) hx hy; rwa [decide_eq_true h] at this
theorem p_geF {t u : TypeId} {x y : Operand} {k : IntKind} {a b : Int} (hx : ev ρ x = .int k a) (hy : ev ρ y = .int k b) (h : ¬ (b ≤ a)) : PureOp P ty (.binOp .geq t x y u) ρ (.bool false) := by
  have := p_ge (P := P) (ty := ty) (t := t) (u := u) hx hy; rwa [decide_eq_false h] at this
theorem p_eqT {t u : TypeId} {x y : Operand} {k : IntKind} {a b : Int} (hx : ev ρ x = .int k a) (hy : ev ρ y = .int k b) (h : a = b) : PureOp P ty (.binOp .eql t x y u) ρ (.bool true) := by
  have := p_eq (P := P) (ty := ty) (t := t) (u := u) hx hy; rwa [decide_eq_true h] at this
theorem p_eqF {t u : TypeId} {x y : Operand} {k : IntKind} {a b : Int} (hx : ev ρ x = .int k a) (hy : ev ρ y = .int k b) (h : ¬ (a = b)) : PureOp P ty (.binOp .eql t x y u) ρ (.bool false) := by
  have := p_eq (P := P) (ty := ty) (t := t) (u := u) hx hy; rwa [decide_eq_false h] at this
theorem p_neT {t u : TypeId} {x y : Operand} {k : IntKind} {a b : Int} (hx : ev ρ x = .int k a) (hy : ev ρ y = .int k b) (h : a ≠ b) : PureOp P ty (.binOp .neq t x y u) ρ (.bool true) := by
  have := p_ne (P := P) (ty := ty) (t := t) (u := u) hx hy; rwa [decide_eq_true h] at this
theorem p_neF {t u : TypeId} {x y : Operand} {k : IntKind} {a b : Int} (hx : ev ρ x = .int k a) (hy : ev ρ y = .int k b) (h : ¬ (a ≠ b)) : PureOp P ty (.binOp .neq t x y u) ρ (.bool false) := by
  have := p_ne (P := P) (ty := ty) (t := t) (u := u) hx hy; rwa [decide_eq_false h] at this
theorem a_loadBN {t : TypeId} {x : Operand} {b : Nat} {cs : List Value} [c : Shp P t true cs.length] {e : TypeId} (hx : ev ρ x = .pointer (some ⟨b, 0, none⟩)) (hb : Blk w b cs e) : At P ty (.load t x) ρ w (.agg cs.toArray) :=
  a_loadN hx (fun j v hj => by rw [Nat.zero_add]; exact hb.cell hj)
theorem d_open1 {S : World → Prop} {i : Nat} {p : Plan} (hn : nth ops.toList i = some ⟨d, o, ty, pos, af, none⟩) (h : ost P o ty d ρ w fun ρ' w' => (skipB ops i = false → S w') ∧ drawV P ops S Q p ρ' w') : drawV P ops S Q (.e1 i p) ρ w := d_e1 hn h
theorem d_open1Y {S : World → Prop} {i : Nat} {p : Plan} {j : Nat} {b : Bool} (hn : nth ops.toList i = some ⟨d, o, ty, pos, af, some (j, b)⟩) (hy : yv ops ρ j = some b) (h : ost P o ty d ρ w fun ρ' w' => (skipB ops i = false → S w') ∧ drawV P ops S Q p ρ' w') : drawV P ops S Q (.e1 i p) ρ w :=
  d_e1 hn (by unfold operV; simp only [hy, beq_self_eq_true, cond_true]; exact h)
theorem d_open1N {S : World → Prop} {i : Nat} {p : Plan} {j : Nat} {b c : Bool} (hn : nth ops.toList i = some ⟨d, o, ty, pos, af, some (j, c)⟩) (hy : yv ops ρ j = some b) (hne : (b == c) = false) (hs : S w) (h : drawV P ops S Q p (put ρ d undef) w) : drawV P ops S Q (.e1 i p) ρ w :=
  d_e1 hn (by unfold operV; simp only [hy, hne, cond_false]; exact ⟨fun _ => hs, h⟩)
theorem d_open1Z {S : World → Prop} {i : Nat} {p : Plan} {j : Nat} {c : Bool} (hn : nth ops.toList i = some ⟨d, o, ty, pos, af, some (j, c)⟩) (hy : yv ops ρ j = none) (hs : S w) (h : drawV P ops S Q p (put ρ d undef) w) : drawV P ops S Q (.e1 i p) ρ w :=
  d_e1 hn (by unfold operV; simp only [hy]; exact ⟨fun _ => hs, h⟩)
theorem p_streqT {t u : TypeId} {x y : Operand} {a b : ByteArray} (hx : ev ρ x = .string a) (hy : ev ρ y = .string b) (h : a = b) : PureOp P ty (.binOp .eql t x y u) ρ (.bool true) := by
  have := p_streq (P := P) (ty := ty) (t := t) (u := u) hx hy; rwa [decide_eq_true h] at this
theorem p_streqF {t u : TypeId} {x y : Operand} {a b : ByteArray} (hx : ev ρ x = .string a) (hy : ev ρ y = .string b) (h : ¬ a = b) : PureOp P ty (.binOp .eql t x y u) ρ (.bool false) := by
  have := p_streq (P := P) (ty := ty) (t := t) (u := u) hx hy; rwa [decide_eq_false h] at this
theorem p_strneT {t u : TypeId} {x y : Operand} {a b : ByteArray} (hx : ev ρ x = .string a) (hy : ev ρ y = .string b) (h : ¬ a = b) : PureOp P ty (.binOp .neq t x y u) ρ (.bool true) := by
  have := p_strne (P := P) (ty := ty) (t := t) (u := u) hx hy; rwa [decide_eq_true h] at this
theorem p_strneF {t u : TypeId} {x y : Operand} {a b : ByteArray} (hx : ev ρ x = .string a) (hy : ev ρ y = .string b) (h : a = b) : PureOp P ty (.binOp .neq t x y u) ρ (.bool false) := by
  have := p_strne (P := P) (ty := ty) (t := t) (u := u) hx hy; rwa [decide_eq_false (fun e => e h)] at this
theorem p_strltK {t u : TypeId} {x y : Operand} {a b : ByteArray} {k : Bool} (hx : ev ρ x = .string a) (hy : ev ρ y = .string b) (h : sLt a b = k) : PureOp P ty (.binOp .lss t x y u) ρ (.bool k) := h ▸ p_strlt (P := P) (ty := ty) (t := t) (u := u) hx hy
theorem p_strgeT {t u : TypeId} {x y : Operand} {a b : ByteArray} (hx : ev ρ x = .string a) (hy : ev ρ y = .string b) (h : sLt a b = false) : PureOp P ty (.binOp .geq t x y u) ρ (.bool true) := by
  have := p_strge (P := P) (ty := ty) (t := t) (u := u) hx hy; rwa [h] at this
theorem p_strgeF {t u : TypeId} {x y : Operand} {a b : ByteArray} (hx : ev ρ x = .string a) (hy : ev ρ y = .string b) (h : sLt a b = true) : PureOp P ty (.binOp .geq t x y u) ρ (.bool false) := by
  have := p_strge (P := P) (ty := ty) (t := t) (u := u) hx hy; rwa [h] at this
class IntT (P : Program) (t : TypeId) (k : outParam IntKind) : Prop where h : P.underlying t = some (.int k)
theorem p_conv {t t' : TypeId} {k k' k2 : IntKind} [c : IntT P t' k'] [c2 : IntT P t k2] {x : Operand} {a : Int} (hx : ev ρ x = .int k a) : PureOp P ty (.convert t t' x) ρ (.int k' (k'.wrap a)) := by
  intro w
  refine lift_value ?_
  rw [hx]
  simp [convert, run_underlying c.h, run_underlying c2.h, Conv.intToInt]
theorem p_convU {t t' : TypeId} {k : IntKind} {k2 : IntKind} [c : IntT P t' .u64] [c2 : IntT P t k2] {x : Operand} {a : Int} (hx : ev ρ x = .int k a) (h : 0 ≤ a ∧ a ≤ 18446744073709551615) : PureOp P ty (.convert t t' x) ρ (.int .u64 a) := by
  have := p_conv (P := P) (ty := ty) (t := t) (t' := t') hx; rwa [IntWalk.u64_in _ h] at this
theorem p_convI {t t' : TypeId} {k : IntKind} {k2 : IntKind} [c : IntT P t' .i64] [c2 : IntT P t k2] {x : Operand} {a : Int} (hx : ev ρ x = .int k a) (h : -9223372036854775808 ≤ a ∧ a ≤ 9223372036854775807) : PureOp P ty (.convert t t' x) ρ (.int .i64 a) := by
  have := p_conv (P := P) (ty := ty) (t := t) (t' := t') hx; rwa [IntWalk.i64_in _ h] at this
end
theorem p_shr1 {P : Program} {ρ : Env} {ty t u : TypeId} {x y : Operand} {k k' : IntKind} {a : Int} (hx : ev ρ x = .int k a) (hy : ev ρ y = .int k' 1) : PureOp P ty (.binOp .shr t x y u) ρ (.int k (a / 2)) :=
  lift_bin hx hy (by simp) (by simp) (fun w => by
    have : min 1 k.bits = 1 := by cases k <;> rfl
    have h2 : a.fdiv 2 = a / 2 := Int.fdiv_eq_ediv_of_nonneg a (by omega)
    simp [binOp, Op.shift, this, h2])
theorem w64_in {n : Int} (h : -9223372036854775808 ≤ n ∧ n ≤ 9223372036854775807) : IntKind.i64.wrap n = n := IntWalk.i64_in n h
end Go.Proofs.FW
