/- Lemmas on the way to a statement of this seat: rules for walks, contracts of functions, and plain facts; each is proved, under the conditions that stand in it. -/
import Derived.Test.YtpoolffoalobnaaW7
set_option linter.all false
namespace Go.Proofs.FW
open Go Go.Proofs Go.RowKit
attribute [local irreducible] Calls opsV ost oL codeV drawV endV operV opV quietV quietO regionV PureOp At To Fnc qst shpB fldB slcB zroB
set_option maxRecDepth 100000
set_option maxHeartbeats 8000000

theorem getD_eq {α : Type} (l : List α) (i : Nat) (d x : α) (h : l[i]? = some x) : l.getD i d = x := by rw [List.getD_eq_getElem?_getD, h]; rfl
theorem val_take_succ (l : List UInt8) (i : Nat) (h : i < l.length) : val (l.take (i + 1)) = val (l.take i) * 256 + (l.getD i 0).toNat := by
  rw [List.take_succ_eq_append_getElem h, val_snoc, getD_eq l i 0 _ (List.getElem?_eq_getElem h)]
theorem val_take_lt (l : List UInt8) (i : Nat) : val (l.take i) < 256 ^ i :=
  Nat.lt_of_lt_of_le (val_lt _) (Nat.pow_le_pow_right (by omega) (List.length_take_le i l))
theorem pow_le8 {i : Nat} (h : i ≤ 8) : 256 ^ i ≤ 18446744073709551616 := Nat.le_trans (Nat.pow_le_pow_right (by omega) h) (by decide)

theorem take125 {H : Mem} {w : World} {s : ByteArray} {k : Nat} (hH : In H w) (h1 : 1 ≤ k) (h8 : k ≤ 8) (hs : k ≤ s.size) (hs2 : s.size ≤ 140737488355328) :
    FncW Try.prog 125 [.string s, .int .i64 k] H w fun H' u _ => H' = H ∧ u = .tuple #[.int .u64 (val ((bytesOf s).take k)), .string (s.extract k s.size), .int .i64 0] := by
  have st := St.init hH
  ((first | unfold Fnc | unfold FncW | unfold MutW | skip); refine enter mixed (fn := Try.f125) Try.func125 Try.ntmps125 (by kernel_rfl) (by kernel_rfl) rfl ?_)
  (repeat (first | refine go ?_ | refine goC ?_))
  refine r_call Try.func124 rfl rfl rfl rfl (fits124 st.mem) ?_
  rintro v w1 ⟨H1, st1, rfl, rfl⟩
  have st := st.call st1
  rw [decide_eq_true (by omega)]
  (repeat (first | refine go ?_ | refine goC ?_))
  refine c_loop [0, 1, 7, 18, 19] (fun m vs w' => ∃ i : Nat, vs = [.string s, .int .i64 k, .int .u64 (val ((bytesOf s).take i)), .int .i64 k, .int .i64 i] ∧ i ≤ k ∧ m = k - i ∧ St w H1 H1 w')
    ⟨_, 0, rfl, by omega, rfl, st⟩ ?_
  rintro m vs w' σ ⟨i, rfl, hi, rfl, st⟩
  (repeat (first | refine go ?_ | refine goC ?_))
  refine c_dec rfl (fun hlt2 => ?_) (fun hge => ?_)
  · have hb := val_take_lt (bytesOf s) i
    have hbl := ((bytesOf s).getD ((i : Int)).toNat 0).toNat_lt
    have hp : 256 ^ i * 256 ≤ 18446744073709551616 := by rw [← Nat.pow_succ]; exact pow_le8 (by omega)
    (repeat (first | refine go ?_ | refine goC ?_))
    refine r_pure (p_shl8 rfl rfl (by omega)) ?_
    (repeat (first | refine go ?_ | refine goC ?_))
    refine r_pure (p_index rfl rfl (by omega) (by omega)) ?_
    (repeat (first | refine go ?_ | refine goC ?_))
    refine r_pure (p_or8 rfl rfl (by omega) (by omega)) ?_
    rw [show ((i : Int)).toNat = i from by omega, ← val_take_succ _ _ (by rw [bytesOf_len]; omega)]
    (repeat (first | refine go ?_ | refine goC ?_))
    refine oL_nil ⟨_, ?_, i + 1, rfl, by omega, rfl, st⟩
    omega
  · obtain rfl : i = k := by omega
    (repeat (first | refine go ?_ | refine goC ?_))
    refine c_draw ((.q 0 (.q 1 (.q 2 (.q 3 (.q 4 (.q 5 (.q 6 .done)))))))) (fun w' => True) (by kernel_rfl) (fun w' hg _ => trivial) fun w3 hw3 _ => ?_
    have st := st.grow hw3
    (repeat (first | refine god ?_ | refine godC ?_))
    refine qst_pure (p_sliceS rfl rfl (by omega) (by omega)) ?_
    (repeat (first | refine god ?_ | refine godC ?_))
    (repeat (first | refine go ?_ | refine goC ?_))
    exact ⟨H1, st, rfl, rfl⟩

/-- The number of a value. -/
def numOf (s : ByteArray) : Nat := if s.size = 8 then val (bytesOf s) else 0
theorem numOf_lt (s : ByteArray) : numOf s < 18446744073709551616 := by
  unfold numOf
  split
  · rename_i h
    have := val_lt (bytesOf s)
    rw [bytesOf_len, h] at this
    exact Nat.lt_of_lt_of_le this (by decide)
  · omega
theorem number105 {H : Mem} {w : World} {s : ByteArray} (hH : In H w) : FncW Try.prog 105 [.string s] H w fun H' u _ => H' = H ∧ u = .int .u64 (numOf s) := by
  have st := St.init hH
  ((first | unfold Fnc | unfold FncW | unfold MutW | skip); refine enter mixed (fn := Try.f105) Try.func105 Try.ntmps105 (by kernel_rfl) (by kernel_rfl) rfl ?_)
  by_cases h : s.size = 8
  · (repeat (first | refine go ?_ | refine goC ?_))
    refine r_call Try.func125 rfl rfl rfl rfl (take125 (k := 8) st.mem (by omega) (by omega) (by omega) (by omega)) ?_
    rintro v w1 ⟨H1, st1, rfl, rfl⟩
    have st := st.call st1
    (repeat (first | refine go ?_ | refine goC ?_))
    refine ⟨H1, st, rfl, ?_⟩
    unfold numOf
    rw [if_pos h, List.take_of_length_le (by rw [bytesOf_len]; omega)]
  · (repeat (first | refine go ?_ | refine goC ?_))
    exact ⟨H, st, rfl, by unfold numOf; rw [if_neg h]; rfl⟩

theorem take123 {H : Mem} {w : World} {s : ByteArray} {k : Nat} (hH : In H w) (h1 : 1 ≤ k) (h8 : k ≤ 8) (hs : k ≤ s.size) (hs2 : s.size ≤ 140737488355328) :
    FncW Try.prog 123 [.string s, .int .i64 k] H w fun H' u _ => H' = H ∧ u = .tuple #[.int .u64 (val ((bytesOf s).take k)), .string (s.extract k s.size), .int .i64 0] := by
  have st := St.init hH
  ((first | unfold Fnc | unfold FncW | unfold MutW | skip); refine enter mixed (fn := Try.f123) Try.func123 Try.ntmps123 (by kernel_rfl) (by kernel_rfl) rfl ?_)
  (repeat (first | refine go ?_ | refine goC ?_))
  refine c_loop [0, 1, 7, 8] (fun m vs w' => ∃ i : Nat, vs = [.string s, .int .i64 k, .int .u64 (val ((bytesOf s).take i)), .int .i64 i] ∧ i ≤ k ∧ m = k - i ∧ St w H H w')
    ⟨_, 0, rfl, by omega, rfl, st⟩ ?_
  rintro m vs w' σ ⟨i, rfl, hi, rfl, st⟩
  (repeat (first | refine go ?_ | refine goC ?_))
  refine c_dec rfl (fun hlt2 => ?_) (fun hge => ?_)
  · have hb := val_take_lt (bytesOf s) i
    have hbl := ((bytesOf s).getD ((i : Int)).toNat 0).toNat_lt
    have hp : 256 ^ i * 256 ≤ 18446744073709551616 := by rw [← Nat.pow_succ]; exact pow_le8 (by omega)
    (repeat (first | refine go ?_ | refine goC ?_))
    refine r_pure (p_mulU rfl (b := 256) rfl (by omega)) ?_
    (repeat (first | refine go ?_ | refine goC ?_))
    refine r_pure (p_index rfl rfl (by omega) (by omega)) ?_
    (repeat (first | refine go ?_ | refine goC ?_))
    refine r_pure (p_addU rfl rfl) ?_
    rw [Nat.mod_eq_of_lt (by omega), show ((i : Int)).toNat = i from by omega, ← val_take_succ _ _ (by rw [bytesOf_len]; omega)]
    (repeat (first | refine go ?_ | refine goC ?_))
    refine oL_nil ⟨_, ?_, i + 1, rfl, by omega, rfl, st⟩
    omega
  · obtain rfl : i = k := by omega
    (repeat (first | refine go ?_ | refine goC ?_))
    refine c_draw ((.q 0 (.q 1 (.q 2 (.q 3 (.q 4 (.q 5 (.q 6 .done)))))))) (fun w' => True) (by kernel_rfl) (fun w' hg _ => trivial) fun w3 hw3 _ => ?_
    have st := st.grow hw3
    (repeat (first | refine god ?_ | refine godC ?_))
    refine qst_pure (p_sliceS rfl rfl (by omega) (by omega)) ?_
    (repeat (first | refine god ?_ | refine godC ?_))
    (repeat (first | refine go ?_ | refine goC ?_))
    exact ⟨H, st, rfl, rfl⟩

theorem number103 {H : Mem} {w : World} {s : ByteArray} (hH : In H w) : FncW Try.prog 103 [.string s] H w fun H' u _ => H' = H ∧ u = .int .u64 (numOf s) := by
  have st := St.init hH
  ((first | unfold Fnc | unfold FncW | unfold MutW | skip); refine enter mixed (fn := Try.f103) Try.func103 Try.ntmps103 (by kernel_rfl) (by kernel_rfl) rfl ?_)
  by_cases h : s.size = 8
  · (repeat (first | refine go ?_ | refine goC ?_))
    refine r_call Try.func123 rfl rfl rfl rfl (take123 (k := 8) st.mem (by omega) (by omega) (by omega) (by omega)) ?_
    rintro v w1 ⟨H1, st1, rfl, rfl⟩
    have st := st.call st1
    (repeat (first | refine go ?_ | refine goC ?_))
    refine ⟨H1, st, rfl, ?_⟩
    unfold numOf
    rw [if_pos h, List.take_of_length_le (by rw [bytesOf_len]; omega)]
  · (repeat (first | refine go ?_ | refine goC ?_))
    exact ⟨H, st, rfl, by unfold numOf; rw [if_neg h]; rfl⟩
end Go.Proofs.FW
