/- Lemmas on the way to a statement of this seat: rules for walks, contracts of functions, and plain facts; each is proved, under the conditions that stand in it. -/
import Derived.Test.YtpoolffoalobnaaW4
set_option linter.all false
namespace Go.Proofs.FW
open Go Go.Proofs Go.RowKit
attribute [local irreducible] Calls opsV ost oL codeV drawV endV operV opV quietV quietO regionV PureOp At To Fnc qst shpB fldB slcB zroB
set_option maxRecDepth 100000
set_option maxHeartbeats 8000000

theorem right87 {H : Mem} {w : World} {v : Value} {xs : List Pair} (hH : In H w) (hr : RE encP 2 H v xs) (hb : xs.length ≤ 140737488355328) :
    FncW Try.prog 87 [v] H w fun H' u _ => H' = H ∧ u = .bool (pairsOk xs) := by
  have st := St.init hH
  obtain ⟨a, cap, rfl, hc⟩ := hr.shape
  ((first | unfold Fnc | unfold FncW | unfold MutW | skip); refine enter mixed (fn := Try.f87) Try.func87 Try.ntmps87 (by kernel_rfl) (by kernel_rfl) rfl ?_)
  (repeat (first | refine go ?_ | refine goC ?_))
  refine c_loop [0, 5, 6, 7] (fun n vs w' => ∃ k : Nat, vs = [.slice a xs.length cap, .slice a xs.length cap, .int .i64 xs.length, .int .i64 k] ∧ k ≤ xs.length ∧ n = xs.length - k ∧ St w H H w' ∧ OkTo pOk pLt xs k) ⟨_, 0, rfl, by omega, rfl, st, OkTo.zero _⟩ ?_
  rintro n vs w' σ ⟨k, rfl, hk, rfl, st, hok⟩
  (repeat (first | refine go ?_ | refine goC ?_))
  refine c_dec rfl (fun hlt => ?_) (fun hge => ?_)
  · obtain ⟨b, o, cap', h1, _, hcell⟩ := hr.pos encP_len (by omega)
    cases h1
    obtain ⟨x, hx⟩ : ∃ x, xs[k]? = some x := ⟨_, List.getElem?_eq_getElem (by omega)⟩
    have hce := hcell k x hx
    have hkk : ((k : Int)).toNat = k := by omega
    (repeat (first | refine go ?_ | refine goC ?_))
    refine r_at (a_loadR (u := x) (enc := encP) st (by rw [hkk]; exact hce) rfl) ?_
    (repeat (first | refine go ?_ | refine goC ?_))
    refine e_alloc st (cs := [_, _]) rfl fun g w1 hg hw m1 => ?_
    have st := st.grow hw
    (repeat (first | refine go ?_ | refine goC ?_))
    refine e_storeN (vs := encP x) rfl m1 rfl (by simp [encP, Value.oneCell']) (by simp [encP]) fun w2 hw2 m2 => ?_
    have st := st.write hw2 m2.base m2.off
    replace m2 : MineB w H w2 g [.string x.k, .string x.v] 59 := m2
    (repeat (first | refine go ?_ | refine goC ?_))
    refine c_draw ((.q 0 (.q 1 (.q 2 (.q 3 (.q 4 (.q 5 (.q 6 (.q 7 (.q 8 (.q 9 (.q 10 (.q 11 (.q 12 (.q 13 (.q 14 (.q 15 (.q 16 (.q 17 (.q 18 (.q 19 (.q 20 (.q 21 (.q 22 (.q 23 (.q 24 .done)))))))))))))))))))))))))) (fun w' => In H w' ∧ Blk w' g [.string x.k, .string x.v] 59) (by kernel_rfl) (fun w' hg _ => ⟨(st.grow hg).mem, (m2.grow0 hg).blk⟩) fun w3 hw3 _ => ?_
    have st := st.grow hw3
    by_cases hk16 : x.k.size ≤ 16
    · by_cases hv32 : x.v.size ≤ 32
      · by_cases hk0 : 0 < k
        · obtain ⟨y, hy⟩ : ∃ y, xs[k - 1]? = some y := ⟨_, List.getElem?_eq_getElem (by omega)⟩
          have hcy := hcell (k - 1) y hy 0 _ rfl
          have hkk' : ((k : Int) - 1).toNat = k - 1 := by omega
          rw [← hkk'] at hcy
          (repeat (first | refine god ?_ | refine godC ?_))
          refine c_cond rfl (fun hq => ?_) (fun hq => ?_)
          · (repeat (first | refine go ?_ | refine goC ?_))
            refine ⟨H, st, rfl, ?_⟩
            rw [show pairsOk xs = false from okBy_no2 hk0 hy hx (by unfold pLt; simpa using hq)]
          · (repeat (first | refine go ?_ | refine goC ?_))
            refine oL_nil ⟨_, ?_, k + 1, rfl, by omega, rfl, st, hok.succ hx (by simp [pOk, hk16, hv32]) fun z _ hz => ?_⟩
            · omega
            · rw [hy] at hz; cases hz; unfold pLt; simpa using hq
        · (repeat (first | refine god ?_ | refine godC ?_))
          (repeat (first | refine go ?_ | refine goC ?_))
          refine oL_nil ⟨_, ?_, k + 1, rfl, by omega, rfl, st, hok.succ hx (by simp [pOk, hk16, hv32]) fun z hz _ => by omega⟩
          omega
      · (repeat (first | refine god ?_ | refine godC ?_))
        (repeat (first | refine go ?_ | refine goC ?_))
        exact ⟨H, st, rfl, by rw [show pairsOk xs = false from okBy_no1 hx (by simp [pOk]; omega)]⟩
    · (repeat (first | refine god ?_ | refine godC ?_))
      (repeat (first | refine go ?_ | refine goC ?_))
      exact ⟨H, st, rfl, by rw [show pairsOk xs = false from okBy_no1 hx (by simp [pOk]; omega)]⟩
  · (repeat (first | refine go ?_ | refine goC ?_))
    exact ⟨H, st, rfl, by rw [show pairsOk xs = true from hok.all (by omega)]⟩
end Go.Proofs.FW
