/- Lemmas on the way to a statement of this seat: rules for walks, contracts of functions, and plain facts; each is proved, under the conditions that stand in it. -/
import Derived.Test.YtpoolffoalobnaaFacts
set_option linter.all false
namespace Go.Proofs.FW
open Go Go.Proofs Go.RowKit
attribute [local irreducible] Calls opsV ost oL codeV drawV endV operV opV quietV quietO regionV PureOp At To Fnc qst shpB fldB slcB zroB
set_option maxRecDepth 100000
set_option maxHeartbeats 8000000

theorem clone78 {H : Mem} {w : World} {v : Value} {n : Nat} {cs : List Value} (hH : In H w) (hr : RFl 2 H v n cs) (hb : n * 32 ≤ 140737488355328) :
    FncW Try.prog 78 [v] H w fun H' v' w' => H' = H ∧ Mine w H w' 59 2 v' n cs := by
  have st := St.init hH
  have h63 : n ≤ maxLen := by unfold maxLen; omega
  obtain ⟨a, cap, rfl, hc⟩ := hr.shape
  ((first | unfold Fnc | unfold FncW | unfold MutW | skip); refine enter mixed (fn := Try.f78) Try.func78 Try.ntmps78 (by kernel_rfl) (by kernel_rfl) rfl ?_)
  (repeat (first | refine go ?_ | refine goC ?_))
  refine c_cond rfl (fun h => ?_) (fun h => ?_)
  · rcases hr.cases with ⟨h1, rfl, rfl⟩ | ⟨b, o, cap', h1, _, _⟩
    · (repeat (first | refine go ?_ | refine goC ?_))
      exact ⟨H, st, rfl, Mine.nil w H w _ _⟩
    · cases h1; cases h
  · (repeat (first | refine go ?_ | refine goC ?_))
    refine e_buildSlice0 st fun g w1 hg hw m0 m1 => ?_
    have st := st.grow hw
    (repeat (first | refine go ?_ | refine goC ?_))
    refine e_appendR st rfl rfl rfl m1 hr rfl (by omega) (by omega) fun v' w' hg' st m => ?_
    (repeat (first | refine go ?_ | refine goC ?_))
    rw [Nat.zero_add] at m
    exact ⟨H, st, rfl, m⟩
theorem clone86 {H : Mem} {w : World} {v : Value} {n : Nat} {cs : List Value} (hH : In H w) (hr : RFl 4 H v n cs) (hb : n * 48 ≤ 140737488355328) :
    FncW Try.prog 86 [v] H w fun H' v' w' => H' = H ∧ Mine w H w' 67 4 v' n cs := by
  have st := St.init hH
  have h63 : n ≤ maxLen := by unfold maxLen; omega
  obtain ⟨a, cap, rfl, hc⟩ := hr.shape
  ((first | unfold Fnc | unfold FncW | unfold MutW | skip); refine enter mixed (fn := Try.f86) Try.func86 Try.ntmps86 (by kernel_rfl) (by kernel_rfl) rfl ?_)
  (repeat (first | refine go ?_ | refine goC ?_))
  refine c_cond rfl (fun h => ?_) (fun h => ?_)
  · rcases hr.cases with ⟨h1, rfl, rfl⟩ | ⟨b, o, cap', h1, _, _⟩
    · (repeat (first | refine go ?_ | refine goC ?_))
      exact ⟨H, st, rfl, Mine.nil w H w _ _⟩
    · cases h1; cases h
  · (repeat (first | refine go ?_ | refine goC ?_))
    refine e_buildSlice0 st fun g w1 hg hw m0 m1 => ?_
    have st := st.grow hw
    (repeat (first | refine go ?_ | refine goC ?_))
    refine e_appendR st rfl rfl rfl m1 hr rfl (by omega) (by omega) fun v' w' hg' st m => ?_
    (repeat (first | refine go ?_ | refine goC ?_))
    rw [Nat.zero_add] at m
    exact ⟨H, st, rfl, m⟩
theorem clone63 {H : Mem} {w : World} {v : Value} {n : Nat} {cs : List Value} (hH : In H w) (hr : RFl 1 H v n cs) (hb : n * 8 ≤ 140737488355328) :
    FncW Try.prog 63 [v] H w fun H' v' w' => H' = H ∧ Mine w H w' 44 1 v' n cs := by
  have st := St.init hH
  have h63 : n ≤ maxLen := by unfold maxLen; omega
  obtain ⟨a, cap, rfl, hc⟩ := hr.shape
  ((first | unfold Fnc | unfold FncW | unfold MutW | skip); refine enter mixed (fn := Try.f63) Try.func63 Try.ntmps63 (by kernel_rfl) (by kernel_rfl) rfl ?_)
  (repeat (first | refine go ?_ | refine goC ?_))
  refine c_cond rfl (fun h => ?_) (fun h => ?_)
  · rcases hr.cases with ⟨h1, rfl, rfl⟩ | ⟨b, o, cap', h1, _, _⟩
    · (repeat (first | refine go ?_ | refine goC ?_))
      exact ⟨H, st, rfl, Mine.nil w H w _ _⟩
    · cases h1; cases h
  · (repeat (first | refine go ?_ | refine goC ?_))
    refine e_buildSlice0 st fun g w1 hg hw m0 m1 => ?_
    have st := st.grow hw
    (repeat (first | refine go ?_ | refine goC ?_))
    refine e_appendR st rfl rfl rfl m1 hr rfl (by omega) (by omega) fun v' w' hg' st m => ?_
    (repeat (first | refine go ?_ | refine goC ?_))
    rw [Nat.zero_add] at m
    exact ⟨H, st, rfl, m⟩
theorem clone29 {H : Mem} {w : World} {v : Value} {n : Nat} {cs : List Value} (hH : In H w) (hr : RFl 7 H v n cs) (hb : n * 80 ≤ 140737488355328) :
    FncW Try.prog 29 [v] H w fun H' v' w' => H' = H ∧ Mine w H w' 37 7 v' n cs := by
  have st := St.init hH
  have h63 : n ≤ maxLen := by unfold maxLen; omega
  obtain ⟨a, cap, rfl, hc⟩ := hr.shape
  ((first | unfold Fnc | unfold FncW | unfold MutW | skip); refine enter mixed (fn := Try.f29) Try.func29 Try.ntmps29 (by kernel_rfl) (by kernel_rfl) rfl ?_)
  (repeat (first | refine go ?_ | refine goC ?_))
  refine c_cond rfl (fun h => ?_) (fun h => ?_)
  · rcases hr.cases with ⟨h1, rfl, rfl⟩ | ⟨b, o, cap', h1, _, _⟩
    · (repeat (first | refine go ?_ | refine goC ?_))
      exact ⟨H, st, rfl, Mine.nil w H w _ _⟩
    · cases h1; cases h
  · (repeat (first | refine go ?_ | refine goC ?_))
    refine e_buildSlice0 st fun g w1 hg hw m0 m1 => ?_
    have st := st.grow hw
    (repeat (first | refine go ?_ | refine goC ?_))
    refine e_appendR st rfl rfl rfl m1 hr rfl (by omega) (by omega) fun v' w' hg' st m => ?_
    (repeat (first | refine go ?_ | refine goC ?_))
    rw [Nat.zero_add] at m
    exact ⟨H, st, rfl, m⟩
theorem clone110 {H : Mem} {w : World} {v : Value} {n : Nat} {cs : List Value} (hH : In H w) (hr : RFl 6 H v n cs) (hb : n * 72 ≤ 140737488355328) :
    FncW Try.prog 110 [v] H w fun H' v' w' => H' = H ∧ Mine w H w' 76 6 v' n cs := by
  have st := St.init hH
  have h63 : n ≤ maxLen := by unfold maxLen; omega
  obtain ⟨a, cap, rfl, hc⟩ := hr.shape
  ((first | unfold Fnc | unfold FncW | unfold MutW | skip); refine enter mixed (fn := Try.f110) Try.func110 Try.ntmps110 (by kernel_rfl) (by kernel_rfl) rfl ?_)
  (repeat (first | refine go ?_ | refine goC ?_))
  refine c_cond rfl (fun h => ?_) (fun h => ?_)
  · rcases hr.cases with ⟨h1, rfl, rfl⟩ | ⟨b, o, cap', h1, _, _⟩
    · (repeat (first | refine go ?_ | refine goC ?_))
      exact ⟨H, st, rfl, Mine.nil w H w _ _⟩
    · cases h1; cases h
  · (repeat (first | refine go ?_ | refine goC ?_))
    refine e_buildSlice0 st fun g w1 hg hw m0 m1 => ?_
    have st := st.grow hw
    (repeat (first | refine go ?_ | refine goC ?_))
    refine e_appendR st rfl rfl rfl m1 hr rfl (by omega) (by omega) fun v' w' hg' st m => ?_
    (repeat (first | refine go ?_ | refine goC ?_))
    rw [Nat.zero_add] at m
    exact ⟨H, st, rfl, m⟩
end Go.Proofs.FW
