/- Lemmas on the way to a statement of this seat: rules for walks, contracts of functions, and plain facts; each is proved, under the conditions that stand in it. -/
import Derived.Test.YtpoolffoalobnaaW15
import Derived.Test.YtpoolffoalobnaaW5
set_option linter.all false
namespace Go.Proofs.FW
open Go Go.Proofs Go.RowKit
attribute [local irreducible] Calls opsV ost oL codeV drawV endV operV opV quietV quietO regionV PureOp At To Fnc qst shpB fldB slcB zroB
set_option maxRecDepth 100000
set_option maxHeartbeats 8000000

structure ChgOk (c : Chg) : Prop where
  key : c.key.size ≤ 16
  bef : c.before.size ≤ 32
  aft : c.after.size ≤ 32
  lo : 1 ≤ c.seq
  hi : c.seq ≤ 2147483647
  had : c.had = true ∨ c.before = ⟨#[]⟩
  has : c.has = true ∨ c.after = ⟨#[]⟩
  any : c.had = true ∨ c.has = true

theorem may126 {H : Mem} {w : World} {c : Chg} (hH : In H w) (hc : ChgOk c) : FncW Try.prog 126 [.agg (encC c).toArray] H w fun _ u _ => u = .bool true := by
  have st := St.init hH
  obtain ⟨seq, key, had, before, has, after⟩ := c
  obtain ⟨c1, c2, c3, c4, c5, c6, c7, c8⟩ := hc
  dsimp only at c1 c2 c3 c4 c5 c6 c7 c8
  have hp1 : pairsOk [⟨key, before⟩] = true := by simp [pairsOk, okBy, risesBy, pOk, c1, c2]
  have hp2 : pairsOk [⟨key, after⟩] = true := by simp [pairsOk, okBy, risesBy, pOk, c1, c3]
  cases had
  · cases has
    · simp at c8
    · have h1 : before = ⟨#[]⟩ := by simpa using c6
      ((first | unfold Fnc | unfold FncW | unfold MutW | skip); refine enter mixed (fn := Try.f126) Try.func126 Try.ntmps126 (by kernel_rfl) (by kernel_rfl) rfl ?_)
      (repeat (first | refine go ?_ | refine goC ?_))
      refine e_box rfl (cs := [.int .i64 seq, .string key, .bool _, .string before, .bool _, .string after]) rfl st fun g w1 hg hw m1 => ?_
      have st := st.grow hw
      (repeat (first | refine go ?_ | refine goC ?_))
      refine e_buildSlice1 (cells := encP ⟨key, before⟩) st rfl rfl rfl rfl rfl fun g2 w2 hg2 hw2 m2 => ?_
      have st := st.grow hw2
      have hne : g ≠ g2 := by have := m1.blk.lt; omega
      have m1 := m1.grow0 hw2
      obtain ⟨st, _, _⟩ := m2.publish st
      have m1 := m1.pub' hne (encP ⟨key, before⟩)
      have hre : RE encP 2 (H.pub g2 (encP ⟨key, before⟩)) (.slice (some ⟨g2, 0, none⟩) 1 1) [⟨key, before⟩] := by
        have := re_pub (H := H) (g := g2) (xs := [(⟨key, before⟩ : Pair)]) encP_len encP_one rfl
        simpa using this
      generalize H.pub g2 (encP ⟨key, before⟩) = H2 at st hre m1
      (repeat (first | refine go ?_ | refine goC ?_))
      refine r_call Try.func87 rfl rfl rfl rfl (right87 st.mem hre (by simp)) ?_
      rintro v w3 ⟨H3, st1, rfl, rfl⟩
      have st := st.call st1
      have m1 := m1.call st1
      rw [hp1]
      (repeat (first | refine go ?_ | refine goC ?_))
      refine e_buildSlice1 (cells := encP ⟨key, after⟩) st rfl rfl rfl rfl rfl fun g4 w4 hg4 hw4 m4 => ?_
      have st := st.grow hw4
      have hne : g ≠ g4 := by have := m1.blk.lt; omega
      have m1 := m1.grow0 hw4
      obtain ⟨st, _, _⟩ := m4.publish st
      have m1 := m1.pub' hne (encP ⟨key, after⟩)
      have hre : RE encP 2 (H3.pub g4 (encP ⟨key, after⟩)) (.slice (some ⟨g4, 0, none⟩) 1 1) [⟨key, after⟩] := by
        have := re_pub (H := H3) (g := g4) (xs := [(⟨key, after⟩ : Pair)]) encP_len encP_one rfl
        simpa using this
      generalize H3.pub g4 (encP ⟨key, after⟩) = H4 at st hre m1
      (repeat (first | refine go ?_ | refine goC ?_))
      refine r_call Try.func87 rfl rfl rfl rfl (right87 st.mem hre (by simp)) ?_
      rintro v w5 ⟨H5, st1, rfl, rfl⟩
      have st := st.call st1
      have m1 := m1.call st1
      rw [hp2]
      (repeat (first | refine go ?_ | refine goC ?_))
      exact ⟨_, st, rfl⟩
  · cases has
    · have h1 : after = ⟨#[]⟩ := by simpa using c7
      ((first | unfold Fnc | unfold FncW | unfold MutW | skip); refine enter mixed (fn := Try.f126) Try.func126 Try.ntmps126 (by kernel_rfl) (by kernel_rfl) rfl ?_)
      (repeat (first | refine go ?_ | refine goC ?_))
      refine e_box rfl (cs := [.int .i64 seq, .string key, .bool _, .string before, .bool _, .string after]) rfl st fun g w1 hg hw m1 => ?_
      have st := st.grow hw
      (repeat (first | refine go ?_ | refine goC ?_))
      refine e_buildSlice1 (cells := encP ⟨key, before⟩) st rfl rfl rfl rfl rfl fun g2 w2 hg2 hw2 m2 => ?_
      have st := st.grow hw2
      have hne : g ≠ g2 := by have := m1.blk.lt; omega
      have m1 := m1.grow0 hw2
      obtain ⟨st, _, _⟩ := m2.publish st
      have m1 := m1.pub' hne (encP ⟨key, before⟩)
      have hre : RE encP 2 (H.pub g2 (encP ⟨key, before⟩)) (.slice (some ⟨g2, 0, none⟩) 1 1) [⟨key, before⟩] := by
        have := re_pub (H := H) (g := g2) (xs := [(⟨key, before⟩ : Pair)]) encP_len encP_one rfl
        simpa using this
      generalize H.pub g2 (encP ⟨key, before⟩) = H2 at st hre m1
      (repeat (first | refine go ?_ | refine goC ?_))
      refine r_call Try.func87 rfl rfl rfl rfl (right87 st.mem hre (by simp)) ?_
      rintro v w3 ⟨H3, st1, rfl, rfl⟩
      have st := st.call st1
      have m1 := m1.call st1
      rw [hp1]
      (repeat (first | refine go ?_ | refine goC ?_))
      refine e_buildSlice1 (cells := encP ⟨key, after⟩) st rfl rfl rfl rfl rfl fun g4 w4 hg4 hw4 m4 => ?_
      have st := st.grow hw4
      have hne : g ≠ g4 := by have := m1.blk.lt; omega
      have m1 := m1.grow0 hw4
      obtain ⟨st, _, _⟩ := m4.publish st
      have m1 := m1.pub' hne (encP ⟨key, after⟩)
      have hre : RE encP 2 (H3.pub g4 (encP ⟨key, after⟩)) (.slice (some ⟨g4, 0, none⟩) 1 1) [⟨key, after⟩] := by
        have := re_pub (H := H3) (g := g4) (xs := [(⟨key, after⟩ : Pair)]) encP_len encP_one rfl
        simpa using this
      generalize H3.pub g4 (encP ⟨key, after⟩) = H4 at st hre m1
      (repeat (first | refine go ?_ | refine goC ?_))
      refine r_call Try.func87 rfl rfl rfl rfl (right87 st.mem hre (by simp)) ?_
      rintro v w5 ⟨H5, st1, rfl, rfl⟩
      have st := st.call st1
      have m1 := m1.call st1
      rw [hp2]
      (repeat (first | refine go ?_ | refine goC ?_))
      exact ⟨_, st, rfl⟩
    ·
      ((first | unfold Fnc | unfold FncW | unfold MutW | skip); refine enter mixed (fn := Try.f126) Try.func126 Try.ntmps126 (by kernel_rfl) (by kernel_rfl) rfl ?_)
      (repeat (first | refine go ?_ | refine goC ?_))
      refine e_box rfl (cs := [.int .i64 seq, .string key, .bool _, .string before, .bool _, .string after]) rfl st fun g w1 hg hw m1 => ?_
      have st := st.grow hw
      (repeat (first | refine go ?_ | refine goC ?_))
      refine e_buildSlice1 (cells := encP ⟨key, before⟩) st rfl rfl rfl rfl rfl fun g2 w2 hg2 hw2 m2 => ?_
      have st := st.grow hw2
      have hne : g ≠ g2 := by have := m1.blk.lt; omega
      have m1 := m1.grow0 hw2
      obtain ⟨st, _, _⟩ := m2.publish st
      have m1 := m1.pub' hne (encP ⟨key, before⟩)
      have hre : RE encP 2 (H.pub g2 (encP ⟨key, before⟩)) (.slice (some ⟨g2, 0, none⟩) 1 1) [⟨key, before⟩] := by
        have := re_pub (H := H) (g := g2) (xs := [(⟨key, before⟩ : Pair)]) encP_len encP_one rfl
        simpa using this
      generalize H.pub g2 (encP ⟨key, before⟩) = H2 at st hre m1
      (repeat (first | refine go ?_ | refine goC ?_))
      refine r_call Try.func87 rfl rfl rfl rfl (right87 st.mem hre (by simp)) ?_
      rintro v w3 ⟨H3, st1, rfl, rfl⟩
      have st := st.call st1
      have m1 := m1.call st1
      rw [hp1]
      (repeat (first | refine go ?_ | refine goC ?_))
      refine e_buildSlice1 (cells := encP ⟨key, after⟩) st rfl rfl rfl rfl rfl fun g4 w4 hg4 hw4 m4 => ?_
      have st := st.grow hw4
      have hne : g ≠ g4 := by have := m1.blk.lt; omega
      have m1 := m1.grow0 hw4
      obtain ⟨st, _, _⟩ := m4.publish st
      have m1 := m1.pub' hne (encP ⟨key, after⟩)
      have hre : RE encP 2 (H3.pub g4 (encP ⟨key, after⟩)) (.slice (some ⟨g4, 0, none⟩) 1 1) [⟨key, after⟩] := by
        have := re_pub (H := H3) (g := g4) (xs := [(⟨key, after⟩ : Pair)]) encP_len encP_one rfl
        simpa using this
      generalize H3.pub g4 (encP ⟨key, after⟩) = H4 at st hre m1
      (repeat (first | refine go ?_ | refine goC ?_))
      refine r_call Try.func87 rfl rfl rfl rfl (right87 st.mem hre (by simp)) ?_
      rintro v w5 ⟨H5, st1, rfl, rfl⟩
      have st := st.call st1
      have m1 := m1.call st1
      rw [hp2]
      (repeat (first | refine go ?_ | refine goC ?_))
      exact ⟨_, st, rfl⟩

theorem right108 {H : Mem} {w : World} {v : Value} {xs : List Chg} (hH : In H w) (hr : RE encC 6 H v xs) (hb : xs.length ≤ 140737488355328) (h1 : ∀ x ∈ xs, ChgOk x) (h2 : ∀ (j : Nat) x y, xs[j]? = some x → xs[j + 1]? = some y → x.seq < y.seq) :
    FncW Try.prog 108 [v] H w fun _ u _ => u = .bool true := by
  have st := St.init hH
  obtain ⟨a, cap, rfl, hc⟩ := hr.shape
  ((first | unfold Fnc | unfold FncW | unfold MutW | skip); refine enter mixed (fn := Try.f108) Try.func108 Try.ntmps108 (by kernel_rfl) (by kernel_rfl) rfl ?_)
  (repeat (first | refine go ?_ | refine goC ?_))
  refine c_loop [0, 5, 6, 7] (fun n vs w' => ∃ (k : Nat) (H1 : Mem), vs = [.slice a xs.length cap, .slice a xs.length cap, .int .i64 xs.length, .int .i64 k] ∧ k ≤ xs.length ∧ n = xs.length - k ∧ St w H H1 w' ∧ H.le H1) ⟨_, 0, H, rfl, by omega, rfl, st, Mem.le_refl _⟩ ?_
  rintro n vs w' σ ⟨k, H1, rfl, hk, rfl, st, hle⟩
  have hr := hr.mono hle
  (repeat (first | refine go ?_ | refine goC ?_))
  refine c_dec rfl (fun hlt => ?_) (fun hge => ?_)
  · obtain ⟨b, o, cap', h1', _, hcell⟩ := hr.pos encC_len (by omega)
    cases h1'
    obtain ⟨x, hx⟩ : ∃ x, xs[k]? = some x := ⟨_, List.getElem?_eq_getElem (by omega)⟩
    have hce := hcell k x hx
    have hkk : ((k : Int)).toNat = k := by omega
    (repeat (first | refine go ?_ | refine goC ?_))
    refine r_at (a_loadR (u := x) (enc := encC) st (by rw [hkk]; exact hce) rfl) ?_
    (repeat (first | refine go ?_ | refine goC ?_))
    refine e_alloc st (cs := [_, _, _, _, _, _]) rfl fun g w1 hg hw m1 => ?_
    have st := st.grow hw
    (repeat (first | refine go ?_ | refine goC ?_))
    refine e_storeN (vs := encC x) rfl m1 rfl (encC_one x) (by simp [encC]) fun w2 hw2 m2 => ?_
    have st := st.write hw2 m2.base m2.off
    replace m2 : MineB w H1 w2 g (encC x) 76 := m2
    (repeat (first | refine go ?_ | refine goC ?_))
    refine c_draw ((.q 0 (.e1 1 (.q 2 (.q 3 (.q 4 (.q 5 (.q 6 (.q 7 (.q 8 (.q 9 (.q 10 (.q 11 (.q 12 (.q 13 (.q 14 (.q 15 (.q 16 (.q 17 .done))))))))))))))))))) (fun w' => In H1 w' ∧ Blk w' g (encC x) 76) (by kernel_rfl) (fun w' hg _ => ⟨(st.grow hg).mem, (m2.grow0 hg).blk⟩) fun w3 hw3 _ => ?_
    have st := st.grow hw3
    have m2 := m2.grow0 hw3
    (repeat (first | refine god ?_ | refine godC ?_))
    refine r_call Try.func126 rfl rfl rfl rfl (may126 st.mem (h1 x (List.mem_of_getElem? hx))) ?_
    rintro v w4 ⟨H2, st2, rfl⟩
    have st := st.call st2
    have m2 := m2.call st2
    have hle2 : H1.le H2 := st2.ext.le
    refine ⟨fun _ => ⟨fun b o v hv => st.mem b o v (hle2 b o v hv), m2.blk⟩, ?_⟩
    by_cases hk0 : 0 < k
    · obtain ⟨y, hy⟩ : ∃ y, xs[k - 1]? = some y := ⟨_, List.getElem?_eq_getElem (by omega)⟩
      have hcy := hcell (k - 1) y hy 0 _ rfl
      have hkk' : ((k : Int) - 1).toNat = k - 1 := by omega
      rw [← hkk'] at hcy
      have hlt2 := h2 (k - 1) y x hy (by rw [Nat.sub_add_cancel hk0]; exact hx)
      (repeat (first | refine god ?_ | refine godC ?_))
      (repeat (first | refine go ?_ | refine goC ?_))
      refine oL_nil ⟨_, ?_, k + 1, H2, rfl, by omega, rfl, st, Mem.le_trans hle hle2⟩
      omega
    · (repeat (first | refine god ?_ | refine godC ?_))
      (repeat (first | refine go ?_ | refine goC ?_))
      refine oL_nil ⟨_, ?_, k + 1, H2, rfl, by omega, rfl, st, Mem.le_trans hle hle2⟩
      omega
  · (repeat (first | refine go ?_ | refine goC ?_))
    exact ⟨_, st, rfl⟩
end Go.Proofs.FW
