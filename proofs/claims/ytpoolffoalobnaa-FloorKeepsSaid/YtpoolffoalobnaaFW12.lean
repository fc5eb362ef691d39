/- Lemmas on the way to a statement of this seat: rules for walks, contracts of functions, and plain facts; each is proved, under the conditions that stand in it. -/
import Derived.Test.YtpoolffoalobnaaFW11
import Derived.Laws.BytesString
import Derived.Laws.MakeOwn
import Derived.Laws.BitsAllLaws
set_option linter.all false
namespace Go.Proofs.FW
open Go Go.RowKit

/-! ### numbers as bytes -/
def bytesOf (s : ByteArray) : List UInt8 := s.data.toList
def ofBytes (l : List UInt8) : ByteArray := ⟨l.toArray⟩
theorem bytesOf_ofBytes (l : List UInt8) : bytesOf (ofBytes l) = l := rfl
theorem ofBytes_bytesOf (s : ByteArray) : ofBytes (bytesOf s) = s := by cases s; simp [ofBytes, bytesOf]
theorem bytesOf_len (s : ByteArray) : (bytesOf s).length = s.size := Array.length_toList
/-- What bytes come to. -/
def val (l : List UInt8) : Nat := l.foldl (fun n b => n * 256 + b.toNat) 0
theorem val_snoc (l : List UInt8) (b : UInt8) : val (l ++ [b]) = val l * 256 + b.toNat := by simp [val]
theorem val_lt_from : ∀ (l : List UInt8) (n k : Nat), n < 256 ^ k → l.foldl (fun n b => n * 256 + b.toNat) n < 256 ^ (k + l.length)
  | [], n, k, h => h
  | b :: l, n, k, h => by
    have hb := b.toNat_lt
    have := val_lt_from l (n * 256 + b.toNat) (k + 1) (by rw [Nat.pow_succ]; omega)
    rw [List.length_cons, show k + (l.length + 1) = k + 1 + l.length from by omega]
    exact this
theorem val_lt (l : List UInt8) : val l < 256 ^ l.length := by
  have := val_lt_from l 0 0 (by simp)
  rwa [Nat.zero_add] at this
def numS (n size : Nat) : List UInt8 := (List.range size).map fun p => UInt8.ofNat (n / 256 ^ (size - 1 - p) % 256)
theorem numS_len (n size : Nat) : (numS n size).length = size := by simp [numS]
theorem numS_succ (n k : Nat) : numS n (k + 1) = numS (n / 256) k ++ [UInt8.ofNat (n % 256)] := by
  unfold numS
  rw [List.range_succ, List.map_append, List.map_singleton]
  congr 1
  · refine List.map_congr_left fun p hp => ?_
    have hp' := List.mem_range.1 hp
    rw [show k + 1 - 1 - p = (k - 1 - p) + 1 from by omega, Nat.pow_succ, Nat.mul_comm, Nat.div_div_eq_div_mul]
  · simp
theorem numS_cons (n k : Nat) : numS n (k + 1) = UInt8.ofNat (n / 256 ^ k % 256) :: numS n k := by
  unfold numS
  rw [List.range_succ_eq_map, List.map_cons, List.map_map]
  congr 1
  refine List.map_congr_left fun p _ => ?_
  simp only [Function.comp]
  rw [show k + 1 - 1 - (p + 1) = k - 1 - p from by omega]
theorem ofBytes_app (a b : List UInt8) : ofBytes a ++ ofBytes b = ofBytes (a ++ b) := by
  apply ByteArray.ext; simp [ofBytes]
theorem ofBytes_size (a : List UInt8) : (ofBytes a).size = a.length := rfl
theorem val_numS : ∀ (k n : Nat), n < 256 ^ k → val (numS n k) = n
  | 0, n, h => by simp at h; subst h; simp [numS, val]
  | k + 1, n, h => by
    rw [numS_succ, val_snoc, val_numS k (n / 256) (by rw [Nat.pow_succ] at h; omega)]
    have : (UInt8.ofNat (n % 256)).toNat = n % 256 := by simp
    rw [this]; omega

section
variable {P : Program} {ρ : Env} {w : World} {Q : Env → World → Prop} {d : Option Tmp} {ty : TypeId} {v : Value}
theorem p_index {t : TypeId} [c : StrT P t] {x y : Operand} {s : ByteArray} {k : IntKind} {i : Int} (hx : ev ρ x = .string s) (hy : ev ρ y = .int k i) (h0 : 0 ≤ i) (h1 : i < s.size) :
    PureOp P ty (.index t x y) ρ (.int .u8 (((bytesOf s).getD i.toNat 0).toNat)) := by
  intro w
  refine lift_value ?_
  rw [hx, hy]
  have hlt : i.toNat < s.size := by omega
  have : s[i.toNat]? = some ((bytesOf s).getD i.toNat 0) := by
    rw [getElem?_pos s i.toNat hlt]
    unfold bytesOf
    rw [List.getD_eq_getElem?_getD, List.getElem?_eq_getElem (show i.toNat < s.data.toList.length by rw [Array.length_toList]; exact hlt)]
    rfl
  simp only [Instr.index, asIntOf, Sem.run_bind, Sem.run_pure, Result.andThen_ok, run_underlying c.h, h0, if_true, this]
theorem p_sliceS {t : TypeId} [c : StrT P t] {x lo : Operand} {s : ByteArray} {k : IntKind} {i : Int} (hx : ev ρ x = .string s) (hy : ev ρ lo = .int k i) (h0 : 0 ≤ i) (h1 : i ≤ s.size) :
    PureOp P ty (.slice t x (some lo) none none) ρ (.string (s.extract i.toNat s.size)) := by
  intro w
  refine lift_value ?_
  rw [hx]
  simp [Instr.sliceAt, Instr.slice, run_underlying c.h, Instr.sliceBounds, Instr.sliceBound, asIntOf, hy, h0, h1]
theorem p_shl8 {t u : TypeId} {x y : Operand} {k' : IntKind} {a : Nat} (hx : ev ρ x = .int .u64 a) (hy : ev ρ y = .int k' 8) (h : a * 256 < 18446744073709551616) : PureOp P ty (.binOp .shl t x y u) ρ (.int .u64 ((a * 256 : Nat) : Int)) :=
  lift_bin hx hy (by simp) (by simp) (fun w => by
    have h2 : IntKind.u64.wrap ((a : Int) * 256) = ((a * 256 : Nat) : Int) := by rw [IntKind.wrap_u64]; omega
    have : min 8 (IntKind.u64.bits) = 8 := rfl
    simp [binOp, Op.shift, this, h2])
set_option maxRecDepth 100000 in
theorem p_or8 {t u : TypeId} {x y : Operand} {a b : Nat} (hx : ev ρ x = .int .u64 ((a * 256 : Nat) : Int)) (hy : ev ρ y = .int .u64 (b : Int)) (hb : b < 256) (h : a * 256 < 18446744073709551616) : PureOp P ty (.binOp .or t x y u) ρ (.int .u64 ((a * 256 + b : Nat) : Int)) :=
  lift_bin hx hy (by simp) (by simp) (fun w => by
    have hor : a * 256 ||| b = a * 256 + b := by
      have := Nat.two_pow_add_eq_or_of_lt (i := 8) (b := b) (by omega) a
      rw [Nat.mul_comm a 256]
      exact this.symm
    have hlt : a * 256 + b < 18446744073709551616 := by omega
    have h1 : (BitVec.ofInt 64 ((a * 256 : Nat) : Int)).toNat = a * 256 := by rw [BitVec.ofInt_natCast, BitVec.toNat_ofNat]; exact Nat.mod_eq_of_lt h
    have h2 : (BitVec.ofInt 64 (b : Int)).toNat = b := by rw [BitVec.ofInt_natCast, BitVec.toNat_ofNat]; exact Nat.mod_eq_of_lt (Nat.lt_trans hb (by decide))
    have h3 : ((BitVec.ofInt 64 ((a * 256 : Nat) : Int)) ||| (BitVec.ofInt 64 (b : Int))).toNat = a * 256 + b := by rw [BitVec.toNat_or, h1, h2, hor]
    have h4 : IntKind.u64.wrap (((a * 256 + b : Nat) : Int)) = ((a * 256 + b : Nat) : Int) := by rw [IntKind.wrap_u64]; omega
    show ((Op.intBits .or .u64 ((a * 256 : Nat) : Int) (b : Int)).run P w) = _
    show Result.ok (Value.int .u64 (IntKind.u64.wrap ((((BitVec.ofInt 64 ((a * 256 : Nat) : Int)) ||| (BitVec.ofInt 64 (b : Int))).toNat : Nat) : Int))) w = _
    rw [h3, h4])
theorem p_shrN {t u : TypeId} {x y : Operand} {k' : IntKind} {a : Nat} {j : Int} (hx : ev ρ x = .int .u64 a) (hy : ev ρ y = .int k' j) (h0 : 0 ≤ j) (h : j ≤ 64) : PureOp P ty (.binOp .shr t x y u) ρ (.int .u64 ((a / 2 ^ j.toNat : Nat) : Int)) :=
  lift_bin hx hy (by simp) (by simp) (fun w => by
    have : min j.toNat (IntKind.u64.bits) = j.toNat := by show min j.toNat 64 = j.toNat; omega
    have h2 : (a : Int).fdiv (2 ^ j.toNat) = ((a / 2 ^ j.toNat : Nat) : Int) := by
      rw [Int.fdiv_eq_ediv_of_nonneg _ (Int.le_of_lt (by exact_mod_cast Nat.two_pow_pos j.toNat))]
      norm_cast
    have hj : ¬ j < 0 := by omega
    simp only [binOp, Op.shift, hj, if_false, this, h2]
    rfl)
theorem p_quoU {t u : TypeId} {x y : Operand} {a b : Nat} (hx : ev ρ x = .int .u64 (a : Int)) (hy : ev ρ y = .int .u64 (b : Int)) (ha : a < 18446744073709551616) (hb : 0 < b) : PureOp P ty (.binOp .quo t x y u) ρ (.int .u64 ((a / b : Nat) : Int)) :=
  lift_bin hx hy (by simp) (by simp) (fun w => by
    have h1 : (a : Int).tdiv b = ((a / b : Nat) : Int) := by rw [Int.tdiv_eq_ediv_of_nonneg (by omega)]; norm_cast
    have h2' : ∀ q : Nat, q ≤ a → IntKind.u64.wrap (q : Int) = (q : Int) := fun q hq => by rw [IntKind.wrap_u64]; omega
    have h2 := h2' _ (Nat.div_le_self a b)
    have h3 : ¬ (b : Int) = 0 := by omega
    simp only [binOp, Op.intDiv, h3, if_false, h1, h2]
    rfl)
theorem p_remU {t u : TypeId} {x y : Operand} {k : IntKind} {a b : Nat} (hx : ev ρ x = .int k (a : Int)) (hy : ev ρ y = .int k (b : Int)) (hb : 0 < b) : PureOp P ty (.binOp .rem t x y u) ρ (.int k ((a % b : Nat) : Int)) := by
  have := p_rem64 (P := P) (ty := ty) (t := t) (u := u) hx hy (by omega) (by omega)
  have e : (a : Int) % (b : Int) = ((a % b : Nat) : Int) := by norm_cast
  rw [e] at this; exact this
theorem p_mulU {t u : TypeId} {x y : Operand} {a b : Nat} (hx : ev ρ x = .int .u64 (a : Int)) (hy : ev ρ y = .int .u64 (b : Int)) (h : a * b < 18446744073709551616) : PureOp P ty (.binOp .mul t x y u) ρ (.int .u64 ((a * b : Nat) : Int)) := by
  have := p_mul (P := P) (ty := ty) (t := t) (u := u) hx hy
  have e : (a : Int) * (b : Int) = ((a * b : Nat) : Int) := by norm_cast
  rw [e, IntKind.wrap_u64, show (((a * b : Nat) : Int)) % 18446744073709551616 = ((a * b : Nat) : Int) from by omega] at this; exact this
theorem p_addU {t u : TypeId} {x y : Operand} {a b : Nat} (hx : ev ρ x = .int .u64 (a : Int)) (hy : ev ρ y = .int .u64 (b : Int)) : PureOp P ty (.binOp .add t x y u) ρ (.int .u64 (((a + b) % 18446744073709551616 : Nat) : Int)) := by
  have := p_add (P := P) (ty := ty) (t := t) (u := u) hx hy
  rw [IntKind.wrap_u64, show ((a : Int) + (b : Int)) % 18446744073709551616 = (((a + b) % 18446744073709551616 : Nat) : Int) from by omega] at this; exact this
theorem p_convN {t t' : TypeId} {k : IntKind} {k2 : IntKind} [c : IntT P t' .u64] [c2 : IntT P t k2] {x : Operand} {a : Nat} (hx : ev ρ x = .int k (a : Int)) (h : a < 18446744073709551616) : PureOp P ty (.convert t t' x) ρ (.int .u64 (a : Int)) := p_convU hx (by omega)
theorem p_convB {t t' : TypeId} {k : IntKind} {k2 : IntKind} [c : IntT P t' .u8] [c2 : IntT P t k2] {x : Operand} {a : Nat} (hx : ev ρ x = .int k (a : Int)) : PureOp P ty (.convert t t' x) ρ (.int .u8 ((a % 256 : Nat) : Int)) := by
  have := p_conv (P := P) (ty := ty) (t := t) (t' := t') hx
  rw [IntKind.wrap_u8'] at this
  have e : (a : Int) % 256 = ((a % 256 : Nat) : Int) := by omega
  rw [e] at this
  exact this
/-- string(b), b of one's own. -/
theorem a_toString {t t' : TypeId} {bytes : Nat} {e : TypeId} {z : Value} [c : Slc P t e 1 bytes z] [c1 : IntT P e .u8] [c2 : StrT P t'] {x : Operand} {w0 : World} {H : Mem} {g n cap : Nat} {l : List UInt8} (hl : l.length = n)
    (hx : ev ρ x = .slice (some ⟨g, 0, none⟩) n cap) {rest : List Value} (hb : MineB w0 H w g (l.map (fun b => Value.int .u8 b.toNat) ++ rest) e) : At P ty (.convert t t' x) ρ w (.string (ofBytes l)) := by
  obtain ⟨ti, h2, h3, h4, h5, h6, h7⟩ := c.out
  refine lift_value ?_
  rw [hx]
  have hload : (loadCells ⟨g, 0, none⟩ n).run P w = .ok ((l.map fun b => (b.toNat : Int)).map (Value.int .u8)).toArray w := by
    have := run_loadCells_list (P := P) w ⟨g, 0, none⟩ (l.map (fun b => Value.int .u8 b.toNat)) (fun j v hj => by
      have ha : (⟨g, 0, none⟩ : Addr).add j = ⟨g, j, none⟩ := by unfold Addr.add; split <;> simp_all
      rw [ha]
      refine hb.blk.cell ?_
      rw [List.getElem?_append_left (List.getElem?_eq_some_iff.1 hj).1]; exact hj)
    rw [List.length_map, hl] at this
    rw [this, List.map_map]; rfl
  have hr := run_bytesToString (P := P) w ⟨g, 0, none⟩ n cap (l.map fun b => (b.toNat : Int)) hload
  have hfold : ∀ (l : List UInt8) (r : ByteArray), (l.map fun b => (b.toNat : Int)).foldl (fun r n => r.push (UInt8.ofNat n.toNat)) r = ⟨r.data ++ l.toArray⟩ := by
    intro l
    induction l with
    | nil => intro r; simp
    | cons b l ih =>
      intro r
      rw [List.map_cons, List.foldl_cons, ih]
      simp [ByteArray.push]
  rw [hfold] at hr
  simp only [convert, Sem.run_bind, run_underlying h2, run_underlying c2.h, run_underlying c1.h, Result.andThen_ok]
  rw [hr]
  simp [ofBytes, ByteArray.empty, ByteArray.emptyWithCapacity]
  rfl
theorem e_makeSlice {t e : TypeId} {sz bytes : Nat} {z : Value} [c : Slc P t e sz bytes z] {x y : Operand} {n : Nat} {k k' : IntKind} {w0 : World} {H0 H : Mem} (hs : St w0 H0 H w)
    (hx : ev ρ x = .int k (n : Int)) (hy : ev ρ y = .int k' (n : Int)) (hb : bytes * n ≤ 140737488355328) (hn : n ≤ 9223372036854775807)
    (h : ∀ g w', w.heap.size ≤ g → w.grownBy w' none → MineB w0 H w' g ((List.range (n * sz)).map fun i => z.cells.getD (i % z.cells.size) default) e → Q (put ρ d (.slice (some ⟨g, 0, none⟩) n n)) w') : ost P (.makeSlice t x y) ty d ρ w Q := by
  obtain ⟨ti, h2, h3, h4, h5, h6, h7⟩ := c.out
  subst h5 h6
  have hr := run_make (P := P) w t e ti z h2 h3 h4 k k' (n : Int) (n : Int) (by omega) (Int.le_refl _) (by
    have : ((ti.bytes * n : Nat) : Int) ≤ 281474976710656 := by omega
    rwa [Int.natCast_mul] at this) (by omega)
  rw [Int.toNat_natCast] at hr
  obtain ⟨g, w', e1, e2, e3, e4⟩ := new_block (cs := madeCells z.cells (n * ti.size)) (t := e) hs
  refine r_to (.inl (to_value (w' := w') (v := .slice (some ⟨g, 0, none⟩) n n) ?_)) (h g w' (by omega) e3 ?_)
  · rw [hx, hy, e2, e1]; exact hr
  · have : (madeCells z.cells (n * ti.size)).toList = (List.range (n * ti.size)).map fun i => z.cells.getD (i % z.cells.size) default := by
      simp only [madeCells, Array.toList_map, Array.toList_range]
      exact List.map_congr_left fun i _ => by rw [Array.getElem!_eq_getD]
    rw [this] at e4
    exact e4
end
end Go.Proofs.FW
