/- Lemmas on the way to a statement of this seat: rules for walks, contracts of functions, and plain facts; each is proved, under the conditions that stand in it. -/
import Derived.Test.YtpoolffoalobnaaW6
set_option linter.all false
namespace Go.Proofs.FW
open Go Go.Proofs Go.RowKit
attribute [local irreducible] Calls opsV ost oL codeV drawV endV operV opV quietV quietO regionV PureOp At To Fnc qst shpB fldB slcB zroB
set_option maxRecDepth 100000
set_option maxHeartbeats 8000000

theorem pow256 (i : Nat) : 2 ^ (8 * i) = 256 ^ i := by rw [Nat.pow_mul]

theorem fits124 {H : Mem} {w : World} {n : Int} (hH : In H w) : FncW Try.prog 124 [.int .i64 n] H w fun H' u _ => H' = H ∧ u = .bool (decide (1 ≤ n ∧ n ≤ 8)) := by
  have st := St.init hH
  ((first | unfold Fnc | unfold FncW | unfold MutW | skip); refine enter mixed (fn := Try.f124) Try.func124 Try.ntmps124 (by kernel_rfl) (by kernel_rfl) rfl ?_)
  by_cases h1 : 1 ≤ n
  · by_cases h2 : n ≤ 8
    · (repeat (first | refine go ?_ | refine goC ?_))
      exact ⟨H, st, rfl, by simp [h1, h2]⟩
    · (repeat (first | refine go ?_ | refine goC ?_))
      exact ⟨H, st, rfl, by simp [h2]⟩
  · (repeat (first | refine go ?_ | refine goC ?_))
    exact ⟨H, st, rfl, by simp [h1]⟩

/-- pack.Num's bytes so far. -/
def numCells (n k i : Nat) : List Value := (List.range k).map fun p => if k - i ≤ p then .int .u8 ((n / 256 ^ (k - 1 - p) % 256 : Nat) : Int) else .int .u8 0
theorem numCells_succ (n k i : Nat) (hi : i < k) : (numCells n k i).set (k - 1 - i) (.int .u8 ((n / 256 ^ i % 256 : Nat) : Int)) = numCells n k (i + 1) := by
  apply List.ext_getElem?
  intro j
  unfold numCells
  rw [List.getElem?_set]
  simp only [List.length_map, List.length_range, List.getElem?_map]
  by_cases hj : j < k
  · rw [List.getElem?_range hj]
    by_cases e : k - 1 - i = j
    · subst e
      simp only [if_true, hj]
      rw [Option.map_some, if_pos (by omega), show k - 1 - (k - 1 - i) = i from by omega]
    · rw [if_neg e, Option.map_some, Option.map_some]
      congr 1
      by_cases h2 : k - i ≤ j
      · rw [if_pos h2, if_pos (by omega)]
      · rw [if_neg h2, if_neg (by omega)]
  · rw [if_neg (by omega), List.getElem?_eq_none (by simpa using Nat.le_of_not_lt hj)]; rfl
theorem numCells_all (n k : Nat) : numCells n k k = (numS n k).map fun b => Value.int .u8 b.toNat := by
  unfold numCells numS
  rw [List.map_map]
  refine List.map_congr_left fun p _ => ?_
  rw [if_pos (by omega)]
  simp

theorem num104 {H : Mem} {w : World} {n k : Nat} (hH : In H w) (hn : n < 18446744073709551616) (h1 : 1 ≤ k) (h8 : k ≤ 8) (hlt : n < 256 ^ k) :
    FncW Try.prog 104 [.int .u64 n, .int .i64 k] H w fun H' u _ => H' = H ∧ u = .tuple #[.string (ofBytes (numS n k)), .int .i64 0] := by
  have st := St.init hH
  ((first | unfold Fnc | unfold FncW | unfold MutW | skip); refine enter mixed (fn := Try.f104) Try.func104 Try.ntmps104 (by kernel_rfl) (by kernel_rfl) rfl ?_)
  (repeat (first | refine go ?_ | refine goC ?_))
  refine r_call Try.func124 rfl rfl rfl rfl (fits124 st.mem) ?_
  rintro v w1 ⟨H1, st1, rfl, rfl⟩
  have st := st.call st1
  rw [decide_eq_true (by omega)]
  have hz : n / 2 ^ ((8 : Int) * k).toNat = 0 := by
    rw [show ((8 : Int) * k).toNat = 8 * k from by omega, pow256]; exact Nat.div_eq_of_lt hlt
  rcases Nat.lt_or_ge k 8 with hk | hk
  all_goals
    (repeat (first | refine go ?_ | refine goC ?_))
    try (refine r_pure (p_shrN rfl rfl (by omega) (by omega)) ?_; rw [hz])
    (repeat (first | refine go ?_ | refine goC ?_))
    refine e_makeSlice st rfl rfl (by omega) (by omega) fun g w2 hg hw m => ?_
    have st := st.grow hw
    (repeat (first | refine go ?_ | refine goC ?_))
    refine c_loop [0, 1, 6, 25, 26] (fun m vs w' => ∃ i : Nat, vs = [.int .u64 n, .int .i64 k, .slice (some ⟨g, 0, none⟩) k k, .int .i64 k, .int .i64 i] ∧ i ≤ k ∧ m = k - i ∧ St w H1 H1 w' ∧ MineB w H1 w' g (numCells n k i) 5)
      ⟨_, 0, rfl, by omega, rfl, st, by
        have e : ((List.range (k * 1)).map fun i => (Value.int IntKind.u8 0).cells.getD (i % (Value.int IntKind.u8 0).cells.size) default) = numCells n k 0 := by
          rw [Nat.mul_one]; unfold numCells
          refine List.map_congr_left fun p hp => ?_
          have := List.mem_range.1 hp
          rw [if_neg (by omega)]
          have : p % 1 = 0 := by omega
          show (#[Value.int IntKind.u8 0]).getD (p % 1) default = _
          rw [this]; rfl
        rw [← e]; exact m⟩ ?_
    rintro m vs w' σ ⟨i, rfl, hi, rfl, st, m⟩
    (repeat (first | refine go ?_ | refine goC ?_))
    refine c_dec rfl (fun hlt2 => ?_) (fun hge => ?_)
    · (repeat (first | refine go ?_ | refine goC ?_))
      refine r_pure (p_shrN rfl rfl (by omega) (by omega)) ?_
      rw [show ((8 : Int) * (i : Int)).toNat = 8 * i from by omega, pow256]
      (repeat (first | refine go ?_ | refine goC ?_))
      refine r_pure (p_convB rfl) ?_
      (repeat (first | refine go ?_ | refine goC ?_))
      refine e_store1 rfl m (by conv => lhs; whnf) rfl (by simp [numCells]; omega) fun w3 hw3 m => ?_
      have st := st.write hw3 m.base m.off
      have hpos : 0 + ((k : Int) - 1 - (i : Int)).toNat * 1 = k - 1 - i := by omega
      rw [hpos, numCells_succ n k i (by omega)] at m
      (repeat (first | refine go ?_ | refine goC ?_))
      refine oL_nil ⟨_, ?_, i + 1, rfl, by omega, rfl, st, m⟩
      omega
    · obtain rfl : i = k := by omega
      rw [numCells_all] at m
      (repeat (first | refine go ?_ | refine goC ?_))
      refine r_at (a_toString (rest := []) (l := numS n i) (numS_len n i) rfl (by rw [List.append_nil]; exact m)) ?_
      (repeat (first | refine go ?_ | refine goC ?_))
      exact ⟨H1, st, rfl, rfl⟩
end Go.Proofs.FW
