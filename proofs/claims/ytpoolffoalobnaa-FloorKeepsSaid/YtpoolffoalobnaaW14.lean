/- Lemmas on the way to a statement of this seat: rules for walks, contracts of functions, and plain facts; each is proved, under the conditions that stand in it. -/
import Derived.Test.YtpoolffoalobnaaP2
set_option linter.all false
namespace Go.Proofs.FW
open Go Go.Proofs Go.RowKit
attribute [local irreducible] Calls opsV ost oL codeV drawV endV operV opV quietV quietO regionV PureOp At To Fnc qst shpB fldB slcB zroB
set_option maxRecDepth 100000
set_option maxHeartbeats 8000000

theorem right14 {H : Mem} {w : World} {v : Value} {xs : List Sub} (hH : In H w) (hr : RE encU 7 H v xs) (hb : xs.length ≤ 140737488355328) :
    FncW Try.prog 14 [v] H w fun H' u _ => H' = H ∧ u = .bool (floorOk xs) := by
  have st := St.init hH
  obtain ⟨a, cap, rfl, hc⟩ := hr.shape
  ((first | unfold Fnc | unfold FncW | unfold MutW | skip); refine enter mixed (fn := Try.f14) Try.func14 Try.ntmps14 (by kernel_rfl) (by kernel_rfl) rfl ?_)
  (repeat (first | refine go ?_ | refine goC ?_))
  refine c_loop [0, 3, 6, 7, 8] (fun n vs w' => ∃ (k : Nat) (last : Int), vs = [.slice a xs.length cap, .int .i64 last, .slice a xs.length cap, .int .i64 xs.length, .int .i64 k] ∧ k ≤ xs.length ∧ n = xs.length - k ∧ St w H H w' ∧ subsFrom 0 xs = subsFrom last (xs.drop k)) ⟨_, 0, 0, rfl, by omega, rfl, st, rfl⟩ ?_
  rintro n vs w' σ ⟨k, last, rfl, hk, rfl, st, hok⟩
  (repeat (first | refine go ?_ | refine goC ?_))
  refine c_dec rfl (fun hlt => ?_) (fun hge => ?_)
  · obtain ⟨b, o, cap', h1, _, hcell⟩ := hr.pos encU_len (by omega)
    cases h1
    obtain ⟨x, hx⟩ : ∃ x, xs[k]? = some x := ⟨_, List.getElem?_eq_getElem (by omega)⟩
    have hce := hcell k x hx
    have hkk : ((k : Int)).toNat = k := by omega
    have hdr : xs.drop k = x :: xs.drop (k + 1) := by
      obtain ⟨hk', rfl⟩ := List.getElem?_eq_some_iff.1 hx
      exact List.drop_eq_getElem_cons hk'
    rw [hdr, show subsFrom last (x :: xs.drop (k + 1)) = (subOk x && decide (last < x.id) && subsFrom x.id (xs.drop (k + 1))) from rfl] at hok
    (repeat (first | refine go ?_ | refine goC ?_))
    refine r_at (a_loadR (u := x) (enc := encU) st (by rw [hkk]; exact hce) rfl) ?_
    (repeat (first | refine go ?_ | refine goC ?_))
    refine e_alloc st (cs := [_, _, _, _, _, _, _]) rfl fun g w1 hg hw m1 => ?_
    have st := st.grow hw
    (repeat (first | refine go ?_ | refine goC ?_))
    refine e_storeN (vs := encU x) rfl m1 rfl (encU_one x) (by simp [encU]) fun w2 hw2 m2 => ?_
    have st := st.write hw2 m2.base m2.off
    replace m2 : MineB w H w2 g (encU x) 37 := m2
    (repeat (first | refine go ?_ | refine goC ?_))
    refine r_call Try.func31 rfl rfl rfl rfl (right31 st.mem) ?_
    rintro v w1 ⟨H1, st1, rfl, rfl⟩
    have st := st.call st1
    have m2 := m2.call st1
    cases h0 : subOk x
    · (repeat (first | refine go ?_ | refine goC ?_))
      refine ⟨_, st, rfl, ?_⟩
      rw [h0] at hok
      simp [floorOk, hok]
    · by_cases hl : last < x.id
      · (repeat (first | refine go ?_ | refine goC ?_))
        refine oL_nil ⟨_, ?_, k + 1, x.id, rfl, by omega, rfl, st, by rw [hok, h0]; simp [hl]⟩
        omega
      · (repeat (first | refine go ?_ | refine goC ?_))
        refine ⟨_, st, rfl, ?_⟩
        simp [floorOk, hok, hl]
  · obtain rfl : k = xs.length := by omega
    (repeat (first | refine go ?_ | refine goC ?_))
    refine ⟨_, st, rfl, ?_⟩
    have : subsFrom 0 xs = true := by rw [hok, List.drop_length]; rfl
    unfold floorOk
    rw [this]
    congr 1
    exact decide_eq_decide.2 (by omega)

theorem of15 {H : Mem} {w : World} {v : Value} {xs : List Sub} {head : Int} (hH : In H w) (hr : RE encU 7 H v xs) (hb : xs.length ≤ 140737488355328) :
    FncW Try.prog 15 [.int .i64 head, v] H w fun H' u _ => H' = H ∧ u = .int .i64 (ofL head xs) := by
  have st := St.init hH
  obtain ⟨a, cap, rfl, hc⟩ := hr.shape
  ((first | unfold Fnc | unfold FncW | unfold MutW | skip); refine enter mixed (fn := Try.f15) Try.func15 Try.ntmps15 (by kernel_rfl) (by kernel_rfl) rfl ?_)
  (repeat (first | refine go ?_ | refine goC ?_))
  refine c_loop [0, 7, 8, 9] (fun n vs w' => ∃ (k : Nat) (h : Int), vs = [.int .i64 h, .slice a xs.length cap, .int .i64 xs.length, .int .i64 k] ∧ k ≤ xs.length ∧ n = xs.length - k ∧ St w H H w' ∧ ofL head xs = ofL h (xs.drop k)) ⟨_, 0, head, rfl, by omega, rfl, st, rfl⟩ ?_
  rintro n vs w' σ ⟨k, h, rfl, hk, rfl, st, hok⟩
  (repeat (first | refine go ?_ | refine goC ?_))
  refine c_dec rfl (fun hlt => ?_) (fun hge => ?_)
  · obtain ⟨b, o, cap', h1, _, hcell⟩ := hr.pos encU_len (by omega)
    cases h1
    obtain ⟨x, hx⟩ : ∃ x, xs[k]? = some x := ⟨_, List.getElem?_eq_getElem (by omega)⟩
    have hce := hcell k x hx
    have hkk : ((k : Int)).toNat = k := by omega
    have hdr : xs.drop k = x :: xs.drop (k + 1) := by
      obtain ⟨hk', rfl⟩ := List.getElem?_eq_some_iff.1 hx
      exact List.drop_eq_getElem_cons hk'
    rw [hdr] at hok
    (repeat (first | refine go ?_ | refine goC ?_))
    refine r_at (a_loadR (u := x) (enc := encU) st (by rw [hkk]; exact hce) rfl) ?_
    (repeat (first | refine go ?_ | refine goC ?_))
    refine e_alloc st (cs := [_, _, _, _, _, _, _]) rfl fun g w1 hg hw m1 => ?_
    have st := st.grow hw
    (repeat (first | refine go ?_ | refine goC ?_))
    refine e_storeN (vs := encU x) rfl m1 rfl (encU_one x) (by simp [encU]) fun w2 hw2 m2 => ?_
    have st := st.write hw2 m2.base m2.off
    replace m2 : MineB w H w2 g (encU x) 37 := m2
    (repeat (first | refine go ?_ | refine goC ?_))
    refine oL_nil ⟨_, ?_, k + 1, min h x.cursor, rfl, by omega, rfl, st, by rw [hok]; rfl⟩
    omega
  · obtain rfl : k = xs.length := by omega
    (repeat (first | refine go ?_ | refine goC ?_))
    refine ⟨_, st, rfl, ?_⟩
    rw [hok, List.drop_length]; rfl
end Go.Proofs.FW
