/- Lemmas on the way to a statement of this seat: rules for walks, contracts of functions, and plain facts; each is proved, under the conditions that stand in it. -/
import Derived.Test.YtpoolffoalobnaaFW3
set_option linter.all false
namespace Go.Proofs.FW
open Go Go.RowKit

def sLt (a b : ByteArray) : Bool := Op.bytesLess a.toList b.toList

class StrT (P : Program) (t : TypeId) : Prop where h : P.underlying t = some .string
class BoolT (P : Program) (t : TypeId) : Prop where h : P.underlying t = some .bool
class PtrT (P : Program) (t : TypeId) (e : outParam TypeId) : Prop where h : P.underlying t = some (.pointer e)

theorem toList_inj (a b : ByteArray) : (a.toList == b.toList) = decide (a = b) := by
  rw [ByteArray.toList_eq, ByteArray.toList_eq]
  by_cases h : a = b
  · subst h; simp
  · have h2 : ¬ a.data.toList = b.data.toList := fun e => h (by cases a; cases b; simp at e; simp [e])
    rw [decide_eq_false h]
    exact beq_false_of_ne h2

section
variable {P : Program} {ops : Array Oper} {rest : List Oper} {ρ : Env} {w : World} {Q : Env → World → Prop} {d : Option Tmp} {ty : TypeId} {pos : String} {af : Array Edge} {v : Value}
section
variable {t u : TypeId} {x y : Operand} {a b : ByteArray}
theorem p_streq (hx : ev ρ x = .string a) (hy : ev ρ y = .string b) : PureOp P ty (.binOp .eql t x y u) ρ (.bool (decide (a = b))) := lift_bin hx hy (by simp) (by simp) (by intro w; rw [← toList_inj]; simp [binOp, Op.stringOp])
theorem p_strne (hx : ev ρ x = .string a) (hy : ev ρ y = .string b) : PureOp P ty (.binOp .neq t x y u) ρ (.bool (decide (a ≠ b))) := lift_bin hx hy (by simp) (by simp) (by
  intro w
  have h := toList_inj a b
  by_cases e : a = b
  · subst e; simp [binOp, Op.stringOp]
  · simp only [e, decide_false] at h; simp [binOp, Op.stringOp, h, e])
theorem p_strlt (hx : ev ρ x = .string a) (hy : ev ρ y = .string b) : PureOp P ty (.binOp .lss t x y u) ρ (.bool (sLt a b)) := lift_bin hx hy (by simp) (by simp) (by intro w; simp [binOp, Op.stringOp, sLt])
theorem p_strle (hx : ev ρ x = .string a) (hy : ev ρ y = .string b) : PureOp P ty (.binOp .leq t x y u) ρ (.bool (sLt a b || decide (a = b))) := lift_bin hx hy (by simp) (by simp) (by intro w; rw [← toList_inj]; simp [binOp, Op.stringOp, sLt])
theorem p_strgt (hx : ev ρ x = .string a) (hy : ev ρ y = .string b) : PureOp P ty (.binOp .gtr t x y u) ρ (.bool (!(sLt a b || decide (a = b)))) := lift_bin hx hy (by simp) (by simp) (by intro w; rw [← toList_inj]; simp [binOp, Op.stringOp, sLt])
theorem p_strge (hx : ev ρ x = .string a) (hy : ev ρ y = .string b) : PureOp P ty (.binOp .geq t x y u) ρ (.bool (!sLt a b)) := lift_bin hx hy (by simp) (by simp) (by intro w; simp [binOp, Op.stringOp, sLt])
theorem p_stradd (hx : ev ρ x = .string a) (hy : ev ρ y = .string b) (hs : a.size + b.size ≤ 9223372036854775807) : PureOp P ty (.binOp .add t x y u) ρ (.string (a ++ b)) := lift_bin hx hy (by simp) (by simp) (by
  intro w
  have : ¬ ((a.size + b.size : Nat) : Int) > IntKind.i64.max := by simp [IntKind.max, IntKind.bits, IntKind.signed]; omega
  simp only [binOp, Op.stringOp, this, if_false]
  rfl)
end
theorem equal_run {t : TypeId} {x y : Value} {b : Bool} {w : World} (h : ∀ n, (Op.equalIn (n + 1) t x y).run P w = .ok b w) : (Op.equal t x y).run P w = .ok b w := h 9999
theorem eql_of {t : TypeId} {x y : Value} {b : Bool} {w : World} (hx : ∀ k n, x ≠ .int k n) (hx2 : ∀ s, x ≠ .string s) (hf : ∀ k n, x ≠ .float k n) (hc : ∀ k n m, x ≠ .complex k n m) (h : ∀ n, (Op.equalIn (n + 1) t x y).run P w = .ok b w) : (binOp .eql t x y).run P w = .ok (.bool b) w := by
  have h2 := equal_run h
  cases x <;> first | (exact absurd rfl (hx _ _)) | (exact absurd rfl (hx2 _)) | (exact absurd rfl (hf _ _)) | (exact absurd rfl (hc _ _ _)) | (simp only [binOp, Sem.run_bind, h2]; rfl)
theorem ne_of {t : TypeId} {x y : Value} {b : Bool} {w : World} (hx : ∀ k n, x ≠ .int k n) (hx2 : ∀ s, x ≠ .string s) (hf : ∀ k n, x ≠ .float k n) (hc : ∀ k n m, x ≠ .complex k n m) (h : ∀ n, (Op.equalIn (n + 1) t x y).run P w = .ok b w) : (binOp .neq t x y).run P w = .ok (.bool (!b)) w := by
  have h2 := equal_run h
  cases x <;> first | (exact absurd rfl (hx _ _)) | (exact absurd rfl (hx2 _)) | (exact absurd rfl (hf _ _)) | (exact absurd rfl (hc _ _ _)) | (simp only [binOp, Sem.run_bind, h2]; rfl)
theorem p_eqnil {t e : TypeId} {sz bytes : Nat} {z : Value} [c : Slc P t e sz bytes z] {u : TypeId} {x y : Operand} {a : Option Addr} {n m : Nat} (hx : ev ρ x = .slice a n m) (hy : ev ρ y = .slice none 0 0) : PureOp P ty (.binOp .eql t x y u) ρ (.bool a.isNone) := by
  obtain ⟨ti, h2, h3, h4, h5, h6, h7⟩ := c.out
  refine lift_bin hx hy (by simp) (by simp) fun w => eql_of (by simp) (by simp) (by simp) (by simp) fun n => ?_
  cases a <;> simp [Op.equalIn, run_underlying h2]
theorem p_ptreqnil {t e : TypeId} [c : PtrT P t e] {u : TypeId} {x y : Operand} {a : Option Addr} (hx : ev ρ x = .pointer a) (hy : ev ρ y = .pointer none) : PureOp P ty (.binOp .eql t x y u) ρ (.bool a.isNone) := by
  refine lift_bin hx hy (by simp) (by simp) fun w => eql_of (by simp) (by simp) (by simp) (by simp) fun n => ?_
  cases a <;> simp [Op.equalIn, run_underlying c.h]
theorem p_booleq {t u : TypeId} [c : BoolT P t] {x y : Operand} {a b : Bool} (hx : ev ρ x = .bool a) (hy : ev ρ y = .bool b) : PureOp P ty (.binOp .eql t x y u) ρ (.bool (a == b)) := by
  refine lift_bin hx hy (by simp) (by simp) fun w => eql_of (by simp) (by simp) (by simp) (by simp) fun n => ?_
  simp [Op.equalIn, run_underlying c.h]
theorem p_boolne {t u : TypeId} [c : BoolT P t] {x y : Operand} {a b : Bool} (hx : ev ρ x = .bool a) (hy : ev ρ y = .bool b) : PureOp P ty (.binOp .neq t x y u) ρ (.bool (!(a == b))) := by
  refine lift_bin hx hy (by simp) (by simp) fun w => ne_of (by simp) (by simp) (by simp) (by simp) fun n => ?_
  simp [Op.equalIn, run_underlying c.h]
theorem p_len {t e : TypeId} {sz bytes : Nat} {z : Value} [c : Slc P t e sz bytes z] {x : Operand} {a : Option Addr} {n m : Nat} {tt : Array TypeId} (ht : tt = #[t]) (hx : ev ρ x = .slice a n m) :
    PureOp P ty (.call { callee := .builtin .len, args := #[x], argTypes := tt }) ρ (.int .i64 n) := by
  obtain ⟨ti, h2, h3, h4, h5, h6, h7⟩ := c.out
  subst ht
  intro w
  simp [execOp, resolve, invoke, builtin, Builtin.len_, hx, run_underlying h2, goInt]
theorem p_lenS {t : TypeId} [c : StrT P t] {x : Operand} {s : ByteArray} {tt : Array TypeId} (ht : tt = #[t]) (hx : ev ρ x = .string s) :
    PureOp P ty (.call { callee := .builtin .len, args := #[x], argTypes := tt }) ρ (.int .i64 s.size) := by
  subst ht
  intro w
  simp [execOp, resolve, invoke, builtin, Builtin.len_, hx, run_underlying c.h, goInt]
theorem p_cap {t e : TypeId} {sz bytes : Nat} {z : Value} [c : Slc P t e sz bytes z] {x : Operand} {a : Option Addr} {n m : Nat} {tt : Array TypeId} (ht : tt = #[t]) (hx : ev ρ x = .slice a n m) :
    PureOp P ty (.call { callee := .builtin .cap, args := #[x], argTypes := tt }) ρ (.int .i64 m) := by
  obtain ⟨ti, h2, h3, h4, h5, h6, h7⟩ := c.out
  subst ht
  intro w
  simp [execOp, resolve, invoke, builtin, Builtin.cap_, hx, run_underlying h2, goInt]
theorem p_min {x y : Operand} {k : IntKind} {a b : Int} {tt : Array TypeId} (hx : ev ρ x = .int k a) (hy : ev ρ y = .int k b) : PureOp P ty (.call { callee := .builtin .min, args := #[x, y], argTypes := tt }) ρ (.int k (min a b)) := by
  intro w
  have : (if b < a then b else a) = min a b := by omega
  simp [execOp, resolve, invoke, builtin, Builtin.min_, Builtin.min2, hx, hy, this]
theorem p_max {x y : Operand} {k : IntKind} {a b : Int} {tt : Array TypeId} (hx : ev ρ x = .int k a) (hy : ev ρ y = .int k b) : PureOp P ty (.call { callee := .builtin .max, args := #[x, y], argTypes := tt }) ρ (.int k (max a b)) := by
  intro w
  have : (if a < b then b else a) = max a b := by omega
  simp [execOp, resolve, invoke, builtin, Builtin.max_, Builtin.max2, hx, hy, this]
/-- x[lo:hi] of a slice, and x[lo:hi:mx]: its bounds' operands, as numbers. -/
theorem p_slice {t e : TypeId} {sz bytes : Nat} {z : Value} [c : Slc P t e sz bytes z] {x : Operand} {b o n cap : Nat} {lo hi mx : Option Operand} {l h m : Nat}
    (hx : ev ρ x = .slice (some ⟨b, o, none⟩) n cap)  (hw : ∀ w, (Instr.sliceBounds true n cap (lo.map (ev ρ)) (hi.map (ev ρ)) (mx.map (ev ρ))).run P w = .ok (l, h, m) w) :
    PureOp P ty (.slice t x lo hi mx) ρ (.slice (some ⟨b, (if m = l then o else o + l * sz), none⟩) (h - l) (m - l)) := by
  obtain ⟨ti, h2, h3, h4, h5, h6, h7⟩ := c.out
  intro w
  refine lift_value ?_
  rw [hx]
  have hadd : (⟨b, o, none⟩ : Addr).add (l * sz) = ⟨b, o + l * sz, none⟩ := by unfold Addr.add; split <;> simp_all
  simp only [Instr.sliceAt, Sem.run_bind, run_underlying h2, Result.andThen_ok, Instr.slice, hw w, sizeOf, typeInfo]
  simp [h3, h5]
  split <;> simp [hadd]
/-! the bounds: low and high, each written or not -/
theorem sb_lh {n cap : Nat} {k k' : IntKind} {a b : Int} (h1 : 0 ≤ a) (h2 : a ≤ b) (h3 : b ≤ cap) (w : World) : (Instr.sliceBounds true n cap (some (.int k a)) (some (.int k' b)) none).run P w = .ok (a.toNat, b.toNat, cap) w := by
  have hb : 0 ≤ b := by omega
  simp [Instr.sliceBounds, Instr.sliceBound, asIntOf, hb, h3, h1, show a ≤ max b 0 from by omega]
theorem sb_h {n cap : Nat} {k' : IntKind} {b : Int} (h2 : 0 ≤ b) (h3 : b ≤ cap) (w : World) : (Instr.sliceBounds true n cap none (some (.int k' b)) none).run P w = .ok (0, b.toNat, cap) w := by
  simp [Instr.sliceBounds, Instr.sliceBound, asIntOf, h2, h3]
theorem sb_l {n cap : Nat} {k : IntKind} {a : Int} (h1 : 0 ≤ a) (h2 : a ≤ n) (w : World) : (Instr.sliceBounds true n cap (some (.int k a)) none none).run P w = .ok (a.toNat, n, cap) w := by
  simp [Instr.sliceBounds, Instr.sliceBound, asIntOf, h1, h2]
theorem sb_hm {n cap : Nat} {k k' : IntKind} {b m : Int} (h1 : 0 ≤ b) (h2 : b ≤ m) (h3 : m ≤ cap) (w : World) : (Instr.sliceBounds true n cap none (some (.int k b)) (some (.int k' m))).run P w = .ok (0, b.toNat, m.toNat) w := by
  have hm : 0 ≤ m := by omega
  simp [Instr.sliceBounds, Instr.sliceBound, asIntOf, h1, hm, h3, show b ≤ max m 0 from by omega]
theorem sb_lhm {n cap : Nat} {k k' k2 : IntKind} {a b m : Int} (h0 : 0 ≤ a) (h1 : a ≤ b) (h2 : b ≤ m) (h3 : m ≤ cap) (w : World) : (Instr.sliceBounds true n cap (some (.int k2 a)) (some (.int k b)) (some (.int k' m))).run P w = .ok (a.toNat, b.toNat, m.toNat) w := by
  have hm : 0 ≤ m := by omega
  have hb : 0 ≤ b := by omega
  simp [Instr.sliceBounds, Instr.sliceBound, asIntOf, h0, hb, hm, h3, show b ≤ max m 0 from by omega, show a ≤ max b 0 from by omega]

/-! calls -/
theorem r_call {x : Operand} {args : Array Operand} {f : FuncId} {caps : Array Value} {as : List Value} {fn : Func} {tt : Array TypeId} {R : Value → World → Prop} (hf : P.funcs[f]? = some fn) (hbody : fn.body.isNone = false) (hname : (fn.name == "runtime.NumGoroutine") = false)
    (hx : ev ρ x = .func (.func f) #[] caps) (ha' : args.toList.map (ev ρ) ++ caps.toList = as)
    (hc : Calls P f as.toArray w fun e w' => ∃ v, e = .returned v ∧ R v w') (h : ∀ v w', R v w' → Q (put ρ d v) w') :
    ost P (.call { callee := .value x, args := args, argTypes := tt }) ty d ρ w Q := by
  have ha : args.map (ev ρ) ++ caps = as.toArray := by subst ha'; simp
  show opV P ty _ ρ w _
  unfold opV
  have hb : fn.body ≠ none := by intro e; rw [e] at hbody; cases hbody
  have hn : fn.name ≠ "runtime.NumGoroutine" := by simpa using hname
  have hrun : (callFunc f as.toArray).run P w = .ok (.enter f as.toArray) w := by
    simp [callFunc, hf, hb, hn]
  simp only [execOp, resolve, hx, Deferred.ofValue, Sem.run_bind, Sem.run_pure, Result.andThen_ok, invoke, Array.empty_append, ha, hrun]
  exact hc.mono fun e w' ⟨v, he, hr⟩ => ⟨v, he, h v w' hr⟩
end
end Go.Proofs.FW
