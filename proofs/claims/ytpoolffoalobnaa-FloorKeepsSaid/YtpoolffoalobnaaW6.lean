/- Lemmas on the way to a statement of this seat: rules for walks, contracts of functions, and plain facts; each is proved, under the conditions that stand in it. -/
import Derived.Test.YtpoolffoalobnaaW5
set_option linter.all false
namespace Go.Proofs.FW
open Go Go.Proofs Go.RowKit
attribute [local irreducible] Calls opsV ost oL codeV drawV endV operV opV quietV quietO regionV PureOp At To Fnc qst shpB fldB slcB zroB
set_option maxRecDepth 100000
set_option maxHeartbeats 8000000

theorem right38 {H : Mem} {w : World} {x : Note} (hH : In H w) : FncW Try.prog 38 [.agg (encN x).toArray] H w fun H' u _ => H' = H ∧ u = .bool (nOk x) := by
  have st := St.init hH
  ((first | unfold Fnc | unfold FncW | unfold MutW | skip); refine enter mixed (fn := Try.f38) Try.func38 Try.ntmps38 (by kernel_rfl) (by kernel_rfl) rfl ?_)
  (repeat (first | refine go ?_ | refine goC ?_))
  refine e_box rfl (cs := encN x) rfl st fun g w1 hg hw m1 => ?_
  have st := st.grow hw
  by_cases h1 : x.key.size ≤ 16
  · by_cases h2 : x.value.size ≤ 32
    · by_cases k1 : x.kind = 1
      · (repeat (first | refine go ?_ | refine goC ?_))
        exact ⟨H, st, rfl, by simp [nOk, h1, h2, k1]⟩
      · by_cases k2 : x.kind = 2
        · by_cases n0 : x.n = 0
          · (repeat (first | refine go ?_ | refine goC ?_))
            exact ⟨H, st, rfl, by simp [nOk, h1, h2, k2, n0]⟩
          · (repeat (first | refine go ?_ | refine goC ?_))
            exact ⟨H, st, rfl, by simp [nOk, h1, h2, k2, n0]⟩
        · by_cases k3 : x.kind = 3
          · (repeat (first | refine go ?_ | refine goC ?_))
            exact ⟨H, st, rfl, by simp [nOk, h1, h2, k3]⟩
          · (repeat (first | refine go ?_ | refine goC ?_))
            exact ⟨H, st, rfl, by simp [nOk, h1, h2, k1, k2, k3]⟩
    · (repeat (first | refine go ?_ | refine goC ?_))
      exact ⟨H, st, rfl, by simp [nOk, h1, h2]⟩
  · (repeat (first | refine go ?_ | refine goC ?_))
    exact ⟨H, st, rfl, by simp [nOk, h1]⟩

theorem right93 {H : Mem} {w : World} {v : Value} {xs : List Note} (hH : In H w) (hr : RE encN 4 H v xs) (hb : xs.length ≤ 140737488355328) :
    FncW Try.prog 93 [v] H w fun H' u _ => H' = H ∧ u = .bool (notesOk xs) := by
  have st := St.init hH
  obtain ⟨a, cap, rfl, hc⟩ := hr.shape
  ((first | unfold Fnc | unfold FncW | unfold MutW | skip); refine enter mixed (fn := Try.f93) Try.func93 Try.ntmps93 (by kernel_rfl) (by kernel_rfl) rfl ?_)
  (repeat (first | refine go ?_ | refine goC ?_))
  refine c_loop [0, 5, 6, 7] (fun n vs w' => ∃ k : Nat, vs = [.slice a xs.length cap, .slice a xs.length cap, .int .i64 xs.length, .int .i64 k] ∧ k ≤ xs.length ∧ n = xs.length - k ∧ St w H H w' ∧ OkTo nOk nLt xs k) ⟨_, 0, rfl, by omega, rfl, st, OkTo.zero _⟩ ?_
  rintro n vs w' σ ⟨k, rfl, hk, rfl, st, hok⟩
  (repeat (first | refine go ?_ | refine goC ?_))
  refine c_dec rfl (fun hlt => ?_) (fun hge => ?_)
  · obtain ⟨b, o, cap', h1, _, hcell⟩ := hr.pos encN_len (by omega)
    cases h1
    obtain ⟨x, hx⟩ : ∃ x, xs[k]? = some x := ⟨_, List.getElem?_eq_getElem (by omega)⟩
    have hce := hcell k x hx
    have hkk : ((k : Int)).toNat = k := by omega
    (repeat (first | refine go ?_ | refine goC ?_))
    refine r_at (a_loadR (u := x) (enc := encN) st (by rw [hkk]; exact hce) rfl) ?_
    (repeat (first | refine go ?_ | refine goC ?_))
    refine e_alloc st (cs := [_, _, _, _]) rfl fun g w1 hg hw m1 => ?_
    have st := st.grow hw
    (repeat (first | refine go ?_ | refine goC ?_))
    refine e_storeN (vs := encN x) rfl m1 rfl (by simp [encN, Value.oneCell']) (by simp [encN]) fun w2 hw2 m2 => ?_
    have st := st.write hw2 m2.base m2.off
    replace m2 : MineB w H w2 g (encN x) 67 := m2
    (repeat (first | refine go ?_ | refine goC ?_))
    refine c_draw ((.q 0 (.e1 1 (.q 2 (.q 3 (.q 4 (.q 5 (.q 6 (.q 7 (.q 8 (.q 9 (.q 10 (.q 11 (.q 12 (.q 13 (.q 14 (.q 15 (.q 16 (.q 17 .done))))))))))))))))))) (fun w' => In H w' ∧ Blk w' g (encN x) 67) (by kernel_rfl) (fun w' hg _ => ⟨(st.grow hg).mem, (m2.grow0 hg).blk⟩) fun w3 hw3 _ => ?_
    have st := st.grow hw3
    have m2 := m2.grow0 hw3
    (repeat (first | refine god ?_ | refine godC ?_))
    refine r_call Try.func38 rfl rfl rfl rfl (right38 (x := x) st.mem) ?_
    rintro v w4 ⟨H1, st1, rfl, rfl⟩
    have st := st.call st1
    have m2 := m2.call st1
    refine ⟨fun _ => ⟨st.mem, m2.blk⟩, ?_⟩
    cases hq : nOk x with
    | false =>
      (repeat (first | refine god ?_ | refine godC ?_))
      (repeat (first | refine go ?_ | refine goC ?_))
      exact ⟨_, st, rfl, by rw [show notesOk xs = false from okBy_no1 hx hq]⟩
    | true =>
      by_cases hk0 : 0 < k
      · obtain ⟨y, hy⟩ : ∃ y, xs[k - 1]? = some y := ⟨_, List.getElem?_eq_getElem (by omega)⟩
        have hcy := hcell (k - 1) y hy 1 _ rfl
        have hkk' : ((k : Int) - 1).toNat = k - 1 := by omega
        rw [← hkk'] at hcy
        (repeat (first | refine god ?_ | refine godC ?_))
        refine c_cond rfl (fun hq => ?_) (fun hq => ?_)
        · (repeat (first | refine go ?_ | refine goC ?_))
          refine ⟨_, st, rfl, ?_⟩
          rw [show notesOk xs = false from okBy_no2 hk0 hy hx (by unfold nLt; simpa using hq)]
        · (repeat (first | refine go ?_ | refine goC ?_))
          refine oL_nil ⟨_, ?_, k + 1, rfl, by omega, rfl, st, hok.succ hx ‹_› fun z _ hz => ?_⟩
          · omega
          · rw [hy] at hz; cases hz; unfold nLt; simpa using hq
      · (repeat (first | refine god ?_ | refine godC ?_))
        (repeat (first | refine go ?_ | refine goC ?_))
        refine oL_nil ⟨_, ?_, k + 1, rfl, by omega, rfl, st, hok.succ hx hq fun z hz _ => by omega⟩
        omega
  · (repeat (first | refine go ?_ | refine goC ?_))
    exact ⟨H, st, rfl, by rw [show notesOk xs = true from hok.all (by omega)]⟩
end Go.Proofs.FW
