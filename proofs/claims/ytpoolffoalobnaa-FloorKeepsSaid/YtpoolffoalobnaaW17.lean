/- Lemmas on the way to a statement of this seat: rules for walks, contracts of functions, and plain facts; each is proved, under the conditions that stand in it. -/
import Derived.Test.YtpoolffoalobnaaW16
set_option linter.all false
namespace Go.Proofs.FW
open Go Go.Proofs Go.RowKit
attribute [local irreducible] Calls opsV ost oL codeV drawV endV operV opV quietV quietO regionV PureOp At To Fnc qst shpB fldB slcB zroB
set_option maxRecDepth 100000
set_option maxHeartbeats 8000000

theorem drop1_83 {H : Mem} {g : Nat} {n : Int} (x : Chg) (hg : H g 0 = some (.int .i64 n)) : CbB Try.prog (.func (.func 83) #[] #[.pointer (some ⟨g, 0, none⟩)]) H (.agg (encC x).toArray) (decide (x.seq ≤ n)) := by
  refine ⟨83, _, rfl, ⟨Try.f83, Try.func83, rfl, rfl⟩, fun w hH => ?_⟩
  show Calls Try.prog 83 [.agg (encC x).toArray, .pointer (some ⟨g, 0, none⟩)].toArray w _
  have st := St.init hH
  ((first | unfold Fnc | unfold FncW | unfold MutW | skip); refine enter mixed (fn := Try.f83) Try.func83 Try.ntmps83 (by kernel_rfl) (by kernel_rfl) rfl ?_)
  (repeat (first | refine go ?_ | refine goC ?_))
  refine e_box rfl (cs := encC x) rfl st fun g1 w1 hg1 hw m1 => ?_
  have st := st.grow hw
  (repeat (first | refine go ?_ | refine goC ?_))
  exact ⟨rfl, st⟩

theorem without82 {H : Mem} {w : World} {v f : Value} {xs : List Chg} {p : Chg → Bool} (hH : In H w) (hr : RE encC 6 H v xs) (hb : xs.length ≤ 1000000000000) (h1 : ∀ x ∈ xs, ChgOk x) (h2 : ∀ (j : Nat) x y, xs[j]? = some x → xs[j + 1]? = some y → x.seq < y.seq) (hf : ∀ x ∈ xs, CbB Try.prog f H (.agg (encC x).toArray) (p x)) :
    FncW Try.prog 82 [v, f] H w fun H' u _ => RE encC 6 H' u (xs.filter fun x => !p x) := by
  have st := St.init hH
  ((first | unfold Fnc | unfold FncW | unfold MutW | skip); refine enter mixed (fn := Try.f82) Try.func82 Try.ntmps82 (by kernel_rfl) (by kernel_rfl) rfl ?_)
  (repeat (first | refine go ?_ | refine goC ?_))
  refine r_call Try.func108 rfl rfl rfl rfl (right108 st.mem hr (by omega) h1 h2) ?_
  rintro v2 w2 ⟨H2, st2, rfl⟩
  have st := st.call st2
  have hle2 : H.le H2 := st2.ext.le
  have hr := hr.mono hle2
  (repeat (first | refine go ?_ | refine goC ?_))
  refine r_call Try.func110 rfl rfl rfl rfl (clone110 st.mem hr (by omega)) ?_
  rintro v3 w3 ⟨H3, st3, rfl, mv⟩
  have mv : ME encC 6 w H3 w3 76 v3 xs := Mine.base mv st.size
  have st := st.call st3
  (repeat (first | refine go ?_ | refine goC ?_))
  refine r_call Try.func109 rfl rfl rfl rfl (deleteFunc109 (s := v3) (f := f) st mv (by omega) fun x hx => (hf x hx).mono hle2) ?_
  rintro v4 w4 ⟨st, hg4, m4⟩
  (repeat (first | refine go ?_ | refine goC ?_))
  obtain ⟨H4, st, hle4, hre, _⟩ := m4.publish st encC_one
  exact ⟨_, st, hre⟩

theorem drop51 {H : Mem} {w : World} {v : Value} {xs : List Chg} {n : Int} (hH : In H w) (hr : RE encC 6 H v xs) (hb : xs.length ≤ 1000000000000) (h1 : ∀ x ∈ xs, ChgOk x) (h2 : ∀ (j : Nat) x y, xs[j]? = some x → xs[j + 1]? = some y → x.seq < y.seq) :
    FncW Try.prog 51 [v, .int .i64 n] H w fun H' u _ => RE encC 6 H' u (xs.filter fun x => !decide (x.seq ≤ n)) := by
  have st := St.init hH
  ((first | unfold Fnc | unfold FncW | unfold MutW | skip); refine enter mixed (fn := Try.f51) Try.func51 Try.ntmps51 (by kernel_rfl) (by kernel_rfl) rfl ?_)
  (repeat (first | refine go ?_ | refine goC ?_))
  refine e_box rfl (cs := [.int .i64 n]) rfl st fun g w1 hg hw m1 => ?_
  have st := st.grow hw
  obtain ⟨st, hle, _⟩ := m1.publish st
  have hgi : (H.pub g [.int .i64 n]) g 0 = some (.int .i64 n) := by rw [Mem.pub_own]; rfl
  have hr := hr.mono hle
  generalize H.pub g [.int .i64 n] = H1 at st hle hgi hr
  (repeat (first | refine go ?_ | refine goC ?_))
  refine r_call Try.func82 rfl rfl rfl rfl (without82 (f := .func (.func 83) #[] #[.pointer (some ⟨g, 0, none⟩)]) st.mem hr hb h1 h2 fun x _ => drop1_83 x hgi) ?_
  rintro v2 w2 ⟨H2, st2, hre⟩
  have st := st.call st2
  (repeat (first | refine go ?_ | refine goC ?_))
  exact ⟨_, st, hre⟩

theorem trim27 {H : Mem} {w : World} {v vl : Value} {xs : List Chg} {l : List Sub} {head : Int} (hH : In H w) (hr : RE encC 6 H v xs) (hl : RE encU 7 H vl l) (hb : xs.length ≤ 1000000000000) (hbl : l.length ≤ 1000000000000) (h1 : ∀ x ∈ xs, ChgOk x) (h2 : ∀ (j : Nat) x y, xs[j]? = some x → xs[j + 1]? = some y → x.seq < y.seq) :
    FncW Try.prog 27 [v, .int .i64 head, vl] H w fun H' u _ => ∃ r, u = .tuple #[r, .int .i64 (ofL head l)] ∧ RE encC 6 H' r (xs.filter fun x => !decide (x.seq ≤ ofL head l)) := by
  have st := St.init hH
  ((first | unfold Fnc | unfold FncW | unfold MutW | skip); refine enter mixed (fn := Try.f27) Try.func27 Try.ntmps27 (by kernel_rfl) (by kernel_rfl) rfl ?_)
  (repeat (first | refine go ?_ | refine goC ?_))
  refine r_call Try.func15 rfl rfl rfl rfl (of15 st.mem hl (by omega)) ?_
  rintro v2 w2 ⟨H2, st2, rfl, rfl⟩
  have st := st.call st2
  (repeat (first | refine go ?_ | refine goC ?_))
  refine r_call Try.func51 rfl rfl rfl rfl (drop51 st.mem hr hb h1 h2) ?_
  rintro v3 w3 ⟨H3, st3, hre⟩
  have st := st.call st3
  (repeat (first | refine go ?_ | refine goC ?_))
  exact ⟨_, st, v3, rfl, hre⟩
end Go.Proofs.FW
