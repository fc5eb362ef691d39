/- Lemmas on the way to a statement of this seat: rules for walks, contracts of functions, and plain facts; each is proved, under the conditions that stand in it. -/
import Derived.Test.YtpoolffoalobnaaW12
set_option linter.all false
namespace Go.Proofs.FW
open Go Go.Proofs Go.RowKit
attribute [local irreducible] Calls opsV ost oL codeV drawV endV operV opV quietV quietO regionV PureOp At To Fnc qst shpB fldB slcB zroB
set_option maxRecDepth 100000
set_option maxHeartbeats 8000000

theorem isNaN85 {H : Mem} {w : World} {s : Int} (hH : In H w) : FncW Try.prog 85 [.int .i64 s] H w fun H' u _ => H' = H ∧ u = .bool false := by
  have st := St.init hH
  ((first | unfold Fnc | unfold FncW | unfold MutW | skip); refine enter mixed (fn := Try.f85) Try.func85 Try.ntmps85 (by kernel_rfl) (by kernel_rfl) rfl ?_)
  (repeat (first | refine go ?_ | refine goC ?_))
  exact ⟨H, st, rfl, by simp⟩

def cmpI (a b : Int) : Int := if a < b then -1 else if b < a then 1 else 0

theorem compare58 {H : Mem} {w : World} {a b : Int} (hH : In H w) : FncW Try.prog 58 [.int .i64 a, .int .i64 b] H w fun H' u _ => H' = H ∧ u = .int .i64 (cmpI a b) := by
  have st := St.init hH
  by_cases h1 : a < b
  all_goals by_cases h2 : b < a
  all_goals
    ((first | unfold Fnc | unfold FncW | unfold MutW | skip); refine enter mixed (fn := Try.f58) Try.func58 Try.ntmps58 (by kernel_rfl) (by kernel_rfl) rfl ?_)
    (repeat (first | refine go ?_ | refine goC ?_))
    refine r_call Try.func85 rfl rfl rfl rfl (isNaN85 st.mem) ?_
    rintro v w1 ⟨H1, st1, rfl, rfl⟩
    have st := st.call st1
    (repeat (first | refine go ?_ | refine goC ?_))
    refine r_call Try.func85 rfl rfl rfl rfl (isNaN85 st.mem) ?_
    rintro v w2 ⟨H2, st2, rfl, rfl⟩
    have st := st.call st2
    (repeat (first | refine go ?_ | refine goC ?_))
    exact ⟨_, st, rfl, by simp [cmpI, h1, h2]⟩

theorem place1_57 (x : Sub) (t : Int) (H : Mem) : CbI Try.prog (.func (.func 57) #[] #[]) H (.agg (encU x).toArray) (.int .i64 t) (cmpI x.id t) := by
  refine ⟨57, #[], rfl, ⟨Try.f57, Try.func57, rfl, rfl⟩, fun w hH => ?_⟩
  show Calls Try.prog 57 [.agg (encU x).toArray, .int .i64 t].toArray w _
  have st := St.init hH
  ((first | unfold Fnc | unfold FncW | unfold MutW | skip); refine enter mixed (fn := Try.f57) Try.func57 Try.ntmps57 (by kernel_rfl) (by kernel_rfl) rfl ?_)
  (repeat (first | refine go ?_ | refine goC ?_))
  refine e_box rfl (cs := encU x) rfl st fun g w1 hg hw m1 => ?_
  have st := st.grow hw
  (repeat (first | refine go ?_ | refine goC ?_))
  refine r_call Try.func58 rfl rfl rfl rfl (compare58 st.mem) ?_
  rintro v w1 ⟨H1, st1, rfl, rfl⟩
  have st := st.call st1
  (repeat (first | refine go ?_ | refine goC ?_))
  exact ⟨rfl, st⟩

def rangeOk (lo hi : ByteArray) (to : Bool) : Bool := decide (lo.size ≤ 16) && decide (hi.size ≤ 17) && (!to || decide (hi = ⟨#[]⟩))
def subOk (s : Sub) : Bool := rangeOk s.lo s.hi s.to && decide (s.next.size ≤ 17) && (!s.live || decide (s.next = ⟨#[]⟩)) && decide (0 ≤ s.cursor) && decide (s.cursor ≤ 2147483647)

theorem right53 {H : Mem} {w : World} {lo hi : ByteArray} {to : Bool} (hH : In H w) : FncW Try.prog 53 [.agg #[.string lo, .string hi, .bool to]] H w fun H' u _ => H' = H ∧ u = .bool (rangeOk lo hi to) := by
  have st := St.init hH
  by_cases h1 : lo.size ≤ 16
  all_goals by_cases h2 : hi.size ≤ 17
  all_goals cases to
  all_goals
    ((first | unfold Fnc | unfold FncW | unfold MutW | skip); refine enter mixed (fn := Try.f53) Try.func53 Try.ntmps53 (by kernel_rfl) (by kernel_rfl) rfl ?_)
    (repeat (first | refine go ?_ | refine goC ?_))
    refine e_box rfl (cs := [.string lo, .string hi, .bool _]) rfl st fun g w1 hg hw m1 => ?_
    have st := st.grow hw
    (repeat (first | refine go ?_ | refine goC ?_))
    exact ⟨_, st, rfl, by simp [rangeOk, h1, h2]⟩

theorem right31 {H : Mem} {w : World} {s : Sub} (hH : In H w) : FncW Try.prog 31 [.agg (encU s).toArray] H w fun H' u _ => H' = H ∧ u = .bool (subOk s) := by
  have st := St.init hH
  obtain ⟨id, lo, hi, to, live, next, cursor⟩ := s
  have main : ∀ lv, lv = live → FncW Try.prog 31 [.agg #[.int .i64 id, .string lo, .string hi, .bool to, .bool lv, .string next, .int .i64 cursor]] H w fun H' u _ => H' = H ∧ u = .bool (subOk ⟨id, lo, hi, to, lv, next, cursor⟩) := by
    intro lv _
    cases h0 : rangeOk lo hi to
    ·
      ((first | unfold Fnc | unfold FncW | unfold MutW | skip); refine enter mixed (fn := Try.f31) Try.func31 Try.ntmps31 (by kernel_rfl) (by kernel_rfl) rfl ?_)
      (repeat (first | refine go ?_ | refine goC ?_))
      refine e_box rfl (cs := [.int .i64 id, .string lo, .string hi, .bool to, .bool _, .string next, .int .i64 cursor]) rfl st fun g w1 hg hw m1 => ?_
      have st := st.grow hw
      (repeat (first | refine go ?_ | refine goC ?_))
      refine r_at (a_loadMP (vs := [.string lo, .string hi, .bool to]) rfl m1 rfl rfl) ?_
      (repeat (first | refine go ?_ | refine goC ?_))
      refine r_call Try.func53 rfl rfl rfl rfl (right53 st.mem) ?_
      rintro v w1 ⟨H1, st1, rfl, rfl⟩
      have st := st.call st1
      have m1 := m1.call st1
      rw [h0]
      (repeat (first | refine go ?_ | refine goC ?_))
      exact ⟨_, st, rfl, by simp [subOk, h0]⟩
    by_cases h1 : next.size ≤ 17
    · cases lv
      · rcases Int.lt_or_le cursor 0 with h3 | h3
        ·
          ((first | unfold Fnc | unfold FncW | unfold MutW | skip); refine enter mixed (fn := Try.f31) Try.func31 Try.ntmps31 (by kernel_rfl) (by kernel_rfl) rfl ?_)
          (repeat (first | refine go ?_ | refine goC ?_))
          refine e_box rfl (cs := [.int .i64 id, .string lo, .string hi, .bool to, .bool _, .string next, .int .i64 cursor]) rfl st fun g w1 hg hw m1 => ?_
          have st := st.grow hw
          (repeat (first | refine go ?_ | refine goC ?_))
          refine r_at (a_loadMP (vs := [.string lo, .string hi, .bool to]) rfl m1 rfl rfl) ?_
          (repeat (first | refine go ?_ | refine goC ?_))
          refine r_call Try.func53 rfl rfl rfl rfl (right53 st.mem) ?_
          rintro v w1 ⟨H1, st1, rfl, rfl⟩
          have st := st.call st1
          have m1 := m1.call st1
          rw [h0]
          (repeat (first | refine go ?_ | refine goC ?_))
          exact ⟨_, st, rfl, by simp [subOk, h0, h1]; omega⟩
        · by_cases h4 : cursor ≤ 2147483647
          ·
            ((first | unfold Fnc | unfold FncW | unfold MutW | skip); refine enter mixed (fn := Try.f31) Try.func31 Try.ntmps31 (by kernel_rfl) (by kernel_rfl) rfl ?_)
            (repeat (first | refine go ?_ | refine goC ?_))
            refine e_box rfl (cs := [.int .i64 id, .string lo, .string hi, .bool to, .bool _, .string next, .int .i64 cursor]) rfl st fun g w1 hg hw m1 => ?_
            have st := st.grow hw
            (repeat (first | refine go ?_ | refine goC ?_))
            refine r_at (a_loadMP (vs := [.string lo, .string hi, .bool to]) rfl m1 rfl rfl) ?_
            (repeat (first | refine go ?_ | refine goC ?_))
            refine r_call Try.func53 rfl rfl rfl rfl (right53 st.mem) ?_
            rintro v w1 ⟨H1, st1, rfl, rfl⟩
            have st := st.call st1
            have m1 := m1.call st1
            rw [h0]
            (repeat (first | refine go ?_ | refine goC ?_))
            exact ⟨_, st, rfl, by simp [subOk, h0, h1, h3, h4]⟩
          ·
            ((first | unfold Fnc | unfold FncW | unfold MutW | skip); refine enter mixed (fn := Try.f31) Try.func31 Try.ntmps31 (by kernel_rfl) (by kernel_rfl) rfl ?_)
            (repeat (first | refine go ?_ | refine goC ?_))
            refine e_box rfl (cs := [.int .i64 id, .string lo, .string hi, .bool to, .bool _, .string next, .int .i64 cursor]) rfl st fun g w1 hg hw m1 => ?_
            have st := st.grow hw
            (repeat (first | refine go ?_ | refine goC ?_))
            refine r_at (a_loadMP (vs := [.string lo, .string hi, .bool to]) rfl m1 rfl rfl) ?_
            (repeat (first | refine go ?_ | refine goC ?_))
            refine r_call Try.func53 rfl rfl rfl rfl (right53 st.mem) ?_
            rintro v w1 ⟨H1, st1, rfl, rfl⟩
            have st := st.call st1
            have m1 := m1.call st1
            rw [h0]
            (repeat (first | refine go ?_ | refine goC ?_))
            exact ⟨_, st, rfl, by simp [subOk, h0, h1, h3, h4]⟩
      · by_cases h2 : next = ⟨#[]⟩
        · rcases Int.lt_or_le cursor 0 with h3 | h3
          ·
            ((first | unfold Fnc | unfold FncW | unfold MutW | skip); refine enter mixed (fn := Try.f31) Try.func31 Try.ntmps31 (by kernel_rfl) (by kernel_rfl) rfl ?_)
            (repeat (first | refine go ?_ | refine goC ?_))
            refine e_box rfl (cs := [.int .i64 id, .string lo, .string hi, .bool to, .bool _, .string next, .int .i64 cursor]) rfl st fun g w1 hg hw m1 => ?_
            have st := st.grow hw
            (repeat (first | refine go ?_ | refine goC ?_))
            refine r_at (a_loadMP (vs := [.string lo, .string hi, .bool to]) rfl m1 rfl rfl) ?_
            (repeat (first | refine go ?_ | refine goC ?_))
            refine r_call Try.func53 rfl rfl rfl rfl (right53 st.mem) ?_
            rintro v w1 ⟨H1, st1, rfl, rfl⟩
            have st := st.call st1
            have m1 := m1.call st1
            rw [h0]
            (repeat (first | refine go ?_ | refine goC ?_))
            exact ⟨_, st, rfl, by simp [subOk, h0, h2]; omega⟩
          · by_cases h4 : cursor ≤ 2147483647
            ·
              ((first | unfold Fnc | unfold FncW | unfold MutW | skip); refine enter mixed (fn := Try.f31) Try.func31 Try.ntmps31 (by kernel_rfl) (by kernel_rfl) rfl ?_)
              (repeat (first | refine go ?_ | refine goC ?_))
              refine e_box rfl (cs := [.int .i64 id, .string lo, .string hi, .bool to, .bool _, .string next, .int .i64 cursor]) rfl st fun g w1 hg hw m1 => ?_
              have st := st.grow hw
              (repeat (first | refine go ?_ | refine goC ?_))
              refine r_at (a_loadMP (vs := [.string lo, .string hi, .bool to]) rfl m1 rfl rfl) ?_
              (repeat (first | refine go ?_ | refine goC ?_))
              refine r_call Try.func53 rfl rfl rfl rfl (right53 st.mem) ?_
              rintro v w1 ⟨H1, st1, rfl, rfl⟩
              have st := st.call st1
              have m1 := m1.call st1
              rw [h0]
              (repeat (first | refine go ?_ | refine goC ?_))
              exact ⟨_, st, rfl, by simp [subOk, h0, h2, h3, h4]; try exact Nat.zero_le _⟩
            ·
              ((first | unfold Fnc | unfold FncW | unfold MutW | skip); refine enter mixed (fn := Try.f31) Try.func31 Try.ntmps31 (by kernel_rfl) (by kernel_rfl) rfl ?_)
              (repeat (first | refine go ?_ | refine goC ?_))
              refine e_box rfl (cs := [.int .i64 id, .string lo, .string hi, .bool to, .bool _, .string next, .int .i64 cursor]) rfl st fun g w1 hg hw m1 => ?_
              have st := st.grow hw
              (repeat (first | refine go ?_ | refine goC ?_))
              refine r_at (a_loadMP (vs := [.string lo, .string hi, .bool to]) rfl m1 rfl rfl) ?_
              (repeat (first | refine go ?_ | refine goC ?_))
              refine r_call Try.func53 rfl rfl rfl rfl (right53 st.mem) ?_
              rintro v w1 ⟨H1, st1, rfl, rfl⟩
              have st := st.call st1
              have m1 := m1.call st1
              rw [h0]
              (repeat (first | refine go ?_ | refine goC ?_))
              exact ⟨_, st, rfl, by simp [subOk, h0, h2, h3, h4]; try exact Nat.zero_le _⟩
        ·
          ((first | unfold Fnc | unfold FncW | unfold MutW | skip); refine enter mixed (fn := Try.f31) Try.func31 Try.ntmps31 (by kernel_rfl) (by kernel_rfl) rfl ?_)
          (repeat (first | refine go ?_ | refine goC ?_))
          refine e_box rfl (cs := [.int .i64 id, .string lo, .string hi, .bool to, .bool _, .string next, .int .i64 cursor]) rfl st fun g w1 hg hw m1 => ?_
          have st := st.grow hw
          (repeat (first | refine go ?_ | refine goC ?_))
          refine r_at (a_loadMP (vs := [.string lo, .string hi, .bool to]) rfl m1 rfl rfl) ?_
          (repeat (first | refine go ?_ | refine goC ?_))
          refine r_call Try.func53 rfl rfl rfl rfl (right53 st.mem) ?_
          rintro v w1 ⟨H1, st1, rfl, rfl⟩
          have st := st.call st1
          have m1 := m1.call st1
          rw [h0]
          (repeat (first | refine go ?_ | refine goC ?_))
          exact ⟨_, st, rfl, by simp [subOk, h0, h1, h2]⟩
    ·
      ((first | unfold Fnc | unfold FncW | unfold MutW | skip); refine enter mixed (fn := Try.f31) Try.func31 Try.ntmps31 (by kernel_rfl) (by kernel_rfl) rfl ?_)
      (repeat (first | refine go ?_ | refine goC ?_))
      refine e_box rfl (cs := [.int .i64 id, .string lo, .string hi, .bool to, .bool _, .string next, .int .i64 cursor]) rfl st fun g w1 hg hw m1 => ?_
      have st := st.grow hw
      (repeat (first | refine go ?_ | refine goC ?_))
      refine r_at (a_loadMP (vs := [.string lo, .string hi, .bool to]) rfl m1 rfl rfl) ?_
      (repeat (first | refine go ?_ | refine goC ?_))
      refine r_call Try.func53 rfl rfl rfl rfl (right53 st.mem) ?_
      rintro v w1 ⟨H1, st1, rfl, rfl⟩
      have st := st.call st1
      have m1 := m1.call st1
      rw [h0]
      (repeat (first | refine go ?_ | refine goC ?_))
      exact ⟨_, st, rfl, by simp [subOk, h0, h1]⟩
  exact main live rfl
end Go.Proofs.FW
