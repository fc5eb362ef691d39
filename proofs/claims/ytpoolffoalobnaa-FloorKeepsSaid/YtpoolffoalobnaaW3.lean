/- Lemmas on the way to a statement of this seat: rules for walks, contracts of functions, and plain facts; each is proved, under the conditions that stand in it. -/
import Derived.Test.YtpoolffoalobnaaW2
set_option linter.all false
namespace Go.Proofs.FW
open Go Go.Proofs Go.RowKit
attribute [local irreducible] Calls opsV ost oL codeV drawV endV operV opV quietV quietO regionV PureOp At To Fnc qst shpB fldB slcB zroB
set_option maxRecDepth 100000
set_option maxHeartbeats 8000000

theorem isNaN128 {H : Mem} {w : World} {s : ByteArray} (hH : In H w) : FncW Try.prog 128 [.string s] H w fun H' u _ => H' = H ∧ u = .bool false := by
  have st := St.init hH
  ((first | unfold Fnc | unfold FncW | unfold MutW | skip); refine enter mixed (fn := Try.f128) Try.func128 Try.ntmps128 (by kernel_rfl) (by kernel_rfl) rfl ?_)
  (repeat (first | refine go ?_ | refine goC ?_))
  exact ⟨H, st, rfl, by simp⟩

def cmpS (a b : ByteArray) : Int := if sLt a b then -1 else if a = b then 0 else 1

theorem compare114 {H : Mem} {w : World} {a b : ByteArray} (hH : In H w) : FncW Try.prog 114 [.string a, .string b] H w fun H' u _ => H' = H ∧ u = .int .i64 (cmpS a b) := by
  have st := St.init hH
  ((first | unfold Fnc | unfold FncW | unfold MutW | skip); refine enter mixed (fn := Try.f114) Try.func114 Try.ntmps114 (by kernel_rfl) (by kernel_rfl) rfl ?_)
  (repeat (first | refine go ?_ | refine goC ?_))
  refine r_call Try.func128 rfl rfl rfl rfl (isNaN128 st.mem) ?_
  rintro v w1 ⟨H1, st1, rfl, rfl⟩
  have st := st.call st1
  (repeat (first | refine go ?_ | refine goC ?_))
  refine r_call Try.func128 rfl rfl rfl rfl (isNaN128 st.mem) ?_
  rintro v w2 ⟨H2, st2, rfl, rfl⟩
  have st := st.call st2
  (repeat (first | refine go ?_ | refine goC ?_))
  refine c_cond rfl (fun h => ?_) (fun h => ?_)
  · (repeat (first | refine go ?_ | refine goC ?_))
    exact ⟨_, st, rfl, by unfold cmpS; rw [if_pos h]⟩
  · (repeat (first | refine go ?_ | refine goC ?_))
    refine c_cond rfl (fun h' => ?_) (fun h' => ?_)
    · (repeat (first | refine go ?_ | refine goC ?_))
      refine ⟨_, st, rfl, ?_⟩
      rw [h] at h'
      have hne : ¬ a = b := by simpa using h'
      unfold cmpS; rw [if_neg (by simp [h]), if_neg hne]
    · (repeat (first | refine go ?_ | refine goC ?_))
      refine ⟨_, st, rfl, ?_⟩
      rw [h] at h'
      have hne : a = b := by simpa using h'
      unfold cmpS; rw [if_neg (by simp [h]), if_pos hne]

theorem place1_113 (x : Pair) (t : ByteArray) (H : Mem) : CbI Try.prog (.func (.func 113) #[] #[]) H (.agg (encP x).toArray) (.string t) (cmpS x.k t) := by
  refine ⟨113, #[], rfl, ⟨Try.f113, Try.func113, rfl, rfl⟩, fun w hH => ?_⟩
  show Calls Try.prog 113 [.agg (encP x).toArray, .string t].toArray w _
  have st := St.init hH
  ((first | unfold Fnc | unfold FncW | unfold MutW | skip); refine enter mixed (fn := Try.f113) Try.func113 Try.ntmps113 (by kernel_rfl) (by kernel_rfl) rfl ?_)
  (repeat (first | refine go ?_ | refine goC ?_))
  refine e_box rfl (cs := encP x) rfl st fun g w1 hg hw m1 => ?_
  have st := st.grow hw
  (repeat (first | refine go ?_ | refine goC ?_))
  refine r_call Try.func114 rfl rfl rfl rfl (compare114 st.mem) ?_
  rintro v w1 ⟨H1, st1, rfl, rfl⟩
  have st := st.call st1
  (repeat (first | refine go ?_ | refine goC ?_))
  exact ⟨rfl, st⟩
theorem place1_118 (x : Note) (t : ByteArray) (H : Mem) : CbI Try.prog (.func (.func 118) #[] #[]) H (.agg (encN x).toArray) (.string t) (cmpS x.key t) := by
  refine ⟨118, #[], rfl, ⟨Try.f118, Try.func118, rfl, rfl⟩, fun w hH => ?_⟩
  show Calls Try.prog 118 [.agg (encN x).toArray, .string t].toArray w _
  have st := St.init hH
  ((first | unfold Fnc | unfold FncW | unfold MutW | skip); refine enter mixed (fn := Try.f118) Try.func118 Try.ntmps118 (by kernel_rfl) (by kernel_rfl) rfl ?_)
  (repeat (first | refine go ?_ | refine goC ?_))
  refine e_box rfl (cs := encN x) rfl st fun g w1 hg hw m1 => ?_
  have st := st.grow hw
  (repeat (first | refine go ?_ | refine goC ?_))
  refine r_call Try.func114 rfl rfl rfl rfl (compare114 st.mem) ?_
  rintro v w1 ⟨H1, st1, rfl, rfl⟩
  have st := st.call st1
  (repeat (first | refine go ?_ | refine goC ?_))
  exact ⟨rfl, st⟩

theorem contains36 {H : Mem} {w : World} {v f : Value} {xs : List Note} {p : Note → Bool} (hH : In H w) (hr : RE encN 4 H v xs) (hb : xs.length ≤ 140737488355328) (hf : ∀ x ∈ xs, CbB Try.prog f H (.agg (encN x).toArray) (p x)) :
    FncW Try.prog 36 [v, f] H w fun H' u _ => H' = H ∧ u = .bool (xs.any p) := by
  have st := St.init hH
  ((first | unfold Fnc | unfold FncW | unfold MutW | skip); refine enter mixed (fn := Try.f36) Try.func36 Try.ntmps36 (by kernel_rfl) (by kernel_rfl) rfl ?_)
  (repeat (first | refine go ?_ | refine goC ?_))
  refine r_call Try.func60 rfl rfl rfl rfl (index60 st.mem hr hb hf) ?_
  rintro v w1 ⟨H1, st1, rfl, rfl⟩
  have st := st.call st1
  (repeat (first | refine go ?_ | refine goC ?_))
  refine ⟨_, st, rfl, ?_⟩
  show Value.bool (decide (0 ≤ posOf p xs)) = _
  congr 1
  unfold posOf
  cases hx : xs.findIdx? p with
  | none =>
    rw [List.findIdx?_eq_none_iff] at hx
    have : xs.any p = false := by rw [List.any_eq_false]; exact fun x hm => by simp [hx x hm]
    rw [this]; rfl
  | some i =>
    rw [List.findIdx?_eq_some_iff_getElem] at hx
    obtain ⟨hi, hp, _⟩ := hx
    have : xs.any p = true := List.any_eq_true.2 ⟨_, List.getElem_mem hi, hp⟩
    rw [this]; simp
end Go.Proofs.FW
