/- Lemmas on the way to a statement of this seat: rules for walks, contracts of functions, and plain facts; each is proved, under the conditions that stand in it. -/
import Derived.Test.YtpoolffoalobnaaW9
set_option linter.all false
namespace Go.Proofs.FW
open Go Go.Proofs Go.RowKit
attribute [local irreducible] Calls opsV ost oL codeV drawV endV operV opV quietV quietO regionV PureOp At To Fnc qst shpB fldB slcB zroB
set_option maxRecDepth 100000
set_option maxHeartbeats 8000000

def bothN (a b : Note) : Note :=
  if b.kind ≠ 1 ∧ b.kind ≠ 2 ∧ b.kind ≠ 3 then { a with key := b.key }
  else if b.kind ≠ 3 then b
  else if a.kind = 1 ∨ a.kind = 2 then { kind := 1, key := b.key, value := (doneL a.value (decide (a.kind = 1)) [b]).1, n := 0 }
  else if a.kind = 3 then { b with n := (b.n + a.n) % 18446744073709551616 } else b

theorem both96 {H : Mem} {w : World} {a b : Note} (hH : In H w) :
    FncW Try.prog 96 [.agg (encN a).toArray, .agg (encN b).toArray] H w fun _ u _ => u = .agg (encN (bothN a b)).toArray := by
  have st := St.init hH
  ((first | unfold Fnc | unfold FncW | unfold MutW | skip); refine enter mixed (fn := Try.f96) Try.func96 Try.ntmps96 (by kernel_rfl) (by kernel_rfl) rfl ?_)
  (repeat (first | refine go ?_ | refine goC ?_))
  refine e_box rfl (cs := encN a) rfl st fun g1 w1 hg1 hw1 m1 => ?_
  have st := st.grow hw1
  (repeat (first | refine go ?_ | refine goC ?_))
  refine e_box rfl (cs := encN b) rfl st fun g2 w2 hg2 hw2 m2 => ?_
  have st := st.grow hw2
  have n12 : g1 ≠ g2 := by have := m1.blk.lt; omega
  have m1 := m1.grow0 hw2
  (repeat (first | refine go ?_ | refine goC ?_))
  refine e_alloc st (cs := [_, _, _, _]) rfl fun g3 w3 hg3 hw3 m3 => ?_
  have st := st.grow hw3
  have n13 : g1 ≠ g3 := by have := m1.blk.lt; omega
  have n23 : g2 ≠ g3 := by have := m2.blk.lt; omega
  have m1 := m1.grow0 hw3
  have m2 := m2.grow0 hw3
  by_cases b1 : b.kind = 1
  · (repeat (first | refine go ?_ | refine goC ?_))
    refine e_storeN (vs := encN b) rfl m3 rfl (encN_one b) (by simp [encN]) fun w4 hw4 m4 => ?_
    have st := st.write hw4 m4.base m4.off
    replace m4 : MineB w H w4 g3 (encN b) 67 := m4
    (repeat (first | refine go ?_ | refine goC ?_))
    refine e_endCell rfl rfl m4 ⟨H, st, ?_⟩
    simp [bothN, b1]
  by_cases b2 : b.kind = 2
  · (repeat (first | refine go ?_ | refine goC ?_))
    refine e_storeN (vs := encN b) rfl m3 rfl (encN_one b) (by simp [encN]) fun w4 hw4 m4 => ?_
    have st := st.write hw4 m4.base m4.off
    replace m4 : MineB w H w4 g3 (encN b) 67 := m4
    (repeat (first | refine go ?_ | refine goC ?_))
    refine e_endCell rfl rfl m4 ⟨H, st, ?_⟩
    simp [bothN, b2]
  by_cases b3 : b.kind = 3
  · by_cases a12 : a.kind = 1 ∨ a.kind = 2
    · have hcase : ∀ (has : Bool), decide (a.kind = 1) = has → (has = true ∧ a.kind = 1 ∨ has = false ∧ a.kind = 2) := by
        intro has hh; rcases a12 with h | h
        · exact .inl ⟨by rw [← hh]; exact decide_eq_true h, h⟩
        · exact .inr ⟨by rw [← hh]; exact decide_eq_false (by omega), h⟩
      rcases a12 with a1 | a1
      all_goals
        (repeat (first | refine go ?_ | refine goC ?_))
        refine e_buildSlice (cells := encN b) st rfl rfl rfl rfl fun g4 w4 hg4 hw4 m4 => ?_
        have st := st.grow hw4
        have n14 : g1 ≠ g4 := by have := m1.blk.lt; omega
        have n24 : g2 ≠ g4 := by have := m2.blk.lt; omega
        have n34 : g3 ≠ g4 := by have := m3.blk.lt; omega
        have m1 := m1.grow0 hw4
        have m2 := m2.grow0 hw4
        have m3 := m3.grow0 hw4
        obtain ⟨st, _, _⟩ := m4.publish st
        have m1 := m1.pub' n14 (encN b)
        have m2 := m2.pub' n24 (encN b)
        have m3 := m3.pub' n34 (encN b)
        have hre : RE encN 4 (H.pub g4 (encN b)) (.slice (some ⟨g4, 0, none⟩) 1 1) [b] := by
          have := re_pub (H := H) (g := g4) (xs := [b]) encN_len encN_one rfl
          simpa using this
        (repeat (first | refine go ?_ | refine goC ?_))
        refine r_call Try.func76 rfl rfl rfl rfl (done76 st.mem hre (by simp)) ?_
        rintro v w5 ⟨H1, st1, rfl, rfl⟩
        have st := st.call st1
        have m1 := m1.call st1
        have m2 := m2.call st1
        have m3 := m3.call st1
        (repeat (first | refine go ?_ | refine goC ?_))
        refine e_storeN (vs := encN { kind := 1, key := b.key, value := (doneL a.value _ [b]).1, n := 0 }) rfl m3 rfl (encN_one _) (by simp [encN]) fun w6 hw6 m6 => ?_
        have st := st.write hw6 m6.base m6.off
        (repeat (first | refine go ?_ | refine goC ?_))
        refine e_endCell rfl rfl m6 ⟨_, st, ?_⟩
        have m6 := m6
        simp [bothN, b3, a1, encN]
    · by_cases a3 : a.kind = 3
      · (repeat (first | refine go ?_ | refine goC ?_))
        refine r_pure (p_addU rfl rfl) ?_
        (repeat (first | refine go ?_ | refine goC ?_))
        refine e_store1 rfl m2 (by conv => lhs; whnf) rfl (by simp [encN]) fun w4 hw4 m4 => ?_
        have st := st.write hw4 m4.base m4.off
        have m3 := m3.grow hw4 (by simp; omega)
        replace m4 : MineB w H w4 g2 (encN { b with n := (b.n + a.n) % 18446744073709551616 }) 67 := m4
        (repeat (first | refine go ?_ | refine goC ?_))
        refine e_storeN (vs := encN { b with n := (b.n + a.n) % 18446744073709551616 }) rfl m3 rfl (encN_one _) (by simp [encN]) fun w5 hw5 m5 => ?_
        have st := st.write hw5 m5.base m5.off
        replace m5 : MineB w H w5 g3 (encN { b with n := (b.n + a.n) % 18446744073709551616 }) 67 := m5
        (repeat (first | refine go ?_ | refine goC ?_))
        refine e_endCell rfl rfl m5 ⟨H, st, ?_⟩
        simp [bothN, b3, a3]
      · have a1 : ¬ a.kind = 1 := fun h => a12 (.inl h)
        have a2 : ¬ a.kind = 2 := fun h => a12 (.inr h)
        (repeat (first | refine go ?_ | refine goC ?_))
        refine e_storeN (vs := encN b) rfl m3 rfl (encN_one b) (by simp [encN]) fun w4 hw4 m4 => ?_
        have st := st.write hw4 m4.base m4.off
        replace m4 : MineB w H w4 g3 (encN b) 67 := m4
        (repeat (first | refine go ?_ | refine goC ?_))
        refine e_endCell rfl rfl m4 ⟨H, st, ?_⟩
        simp [bothN, b3, a1, a2, a3]
  · (repeat (first | refine go ?_ | refine goC ?_))
    refine e_store1 rfl m1 (by conv => lhs; whnf) rfl (by simp [encN]) fun w4 hw4 m4 => ?_
    have st := st.write hw4 m4.base m4.off
    have m3 := m3.grow hw4 (by simp; omega)
    replace m4 : MineB w H w4 g1 (encN { a with key := b.key }) 67 := m4
    (repeat (first | refine go ?_ | refine goC ?_))
    refine e_storeN (vs := encN { a with key := b.key }) rfl m3 rfl (encN_one _) (by simp [encN]) fun w5 hw5 m5 => ?_
    have st := st.write hw5 m5.base m5.off
    replace m5 : MineB w H w5 g3 (encN { a with key := b.key }) 67 := m5
    (repeat (first | refine go ?_ | refine goC ?_))
    refine e_endCell rfl rfl m5 ⟨H, st, ?_⟩
    simp [bothN, b1, b2, b3]
end Go.Proofs.FW
