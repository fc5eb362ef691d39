/- Lemmas on the way to a statement of this seat: rules for walks, contracts of functions, and plain facts; each is proved, under the conditions that stand in it. -/
import Derived.Test.YtpoolffoalobnaaW8
set_option linter.all false
namespace Go.Proofs.FW
open Go Go.Proofs Go.RowKit
attribute [local irreducible] Calls opsV ost oL codeV drawV endV operV opV quietV quietO regionV PureOp At To Fnc qst shpB fldB slcB zroB
set_option maxRecDepth 100000
set_option maxHeartbeats 8000000

/-- What a value becomes by one note. -/
def done1 (s : ByteArray × Bool) (x : Note) : ByteArray × Bool :=
  if x.kind = 1 then (x.value, true) else if x.kind = 2 then (⟨#[]⟩, false)
  else if x.kind = 3 then (ofBytes (numS ((numOf s.1 + x.n) % 18446744073709551616) 8), true) else s
def doneL (v : ByteArray) (has : Bool) (l : List Note) : ByteArray × Bool := l.foldl done1 (if has then v else ⟨#[]⟩, has)

theorem done76 {H : Mem} {w : World} {s : ByteArray} {has : Bool} {v : Value} {xs : List Note} (hH : In H w) (hr : RE encN 4 H v xs) (hb : xs.length ≤ 140737488355328) :
    FncW Try.prog 76 [.string s, .bool has, v] H w fun H' u _ => H' = H ∧ u = .tuple #[.string (doneL s has xs).1, .bool (doneL s has xs).2] := by
  have st := St.init hH
  obtain ⟨a, cap, rfl, hc⟩ := hr.shape
  ((first | unfold Fnc | unfold FncW | unfold MutW | skip); refine enter mixed (fn := Try.f76) Try.func76 Try.ntmps76 (by kernel_rfl) (by kernel_rfl) rfl ?_)
  obtain ⟨q0, hq0⟩ : ∃ q0 : ByteArray × Bool, (if has then s else ⟨#[]⟩, has) = q0 := ⟨_, rfl⟩
  have hfin : doneL s has xs = xs.foldl done1 q0 := by unfold doneL; rw [hq0]
  rw [hfin]
  clear hfin
  cases has <;> simp only [Bool.false_eq_true, if_false, if_true] at hq0
  all_goals
    (repeat (first | refine go ?_ | refine goC ?_))
    refine c_loop [0, 1, 2, 14, 15, 16] (fun m vs w' => ∃ k : Nat, ∃ q : ByteArray × Bool, q = (xs.take k).foldl done1 q0 ∧ vs = [.string q.1, .bool q.2, .slice a xs.length cap, .slice a xs.length cap, .int .i64 xs.length, .int .i64 k] ∧ k ≤ xs.length ∧ m = xs.length - k ∧ St w H H w')
      ⟨_, 0, q0, rfl, by subst hq0; rfl, by omega, rfl, st⟩ ?_
    rintro m vs w' σ ⟨k, q, hq, rfl, hk, rfl, st⟩
    (repeat (first | refine go ?_ | refine goC ?_))
    refine c_dec rfl (fun hlt => ?_) (fun hge => ?_)
    · obtain ⟨b, o, cap', h1, _, hcell⟩ := hr.pos encN_len (by omega)
      cases h1
      obtain ⟨x, hx⟩ : ∃ x, xs[k]? = some x := ⟨_, List.getElem?_eq_getElem (by omega)⟩
      have hce := hcell k x hx
      have hkk : ((k : Int)).toNat = k := by omega
      have hstep : done1 q x = (xs.take (k + 1)).foldl done1 q0 := by
        obtain ⟨hk', rfl⟩ := List.getElem?_eq_some_iff.1 hx
        rw [List.take_succ_eq_append_getElem hk', List.foldl_append, ← hq]; rfl
      (repeat (first | refine go ?_ | refine goC ?_))
      refine r_at (a_loadR (u := x) (enc := encN) st (by rw [hkk]; exact hce) rfl) ?_
      (repeat (first | refine go ?_ | refine goC ?_))
      refine e_alloc st (cs := [_, _, _, _]) rfl fun g w1 hg hw m1 => ?_
      have st := st.grow hw
      (repeat (first | refine go ?_ | refine goC ?_))
      refine e_storeN (vs := encN x) rfl m1 rfl (by simp [encN, Value.oneCell']) (by simp [encN]) fun w2 hw2 m2 => ?_
      have st := st.write hw2 m2.base m2.off
      replace m2 : MineB w H w2 g (encN x) 67 := m2
      by_cases k1 : x.kind = 1
      · (repeat (first | refine go ?_ | refine goC ?_))
        refine oL_nil ⟨_, ?_, k + 1, _, hstep, by rw [show done1 q x = (x.value, true) from by simp [done1, k1]]; rfl, by omega, rfl, st⟩
        omega
      · by_cases k2 : x.kind = 2
        · (repeat (first | refine go ?_ | refine goC ?_))
          refine oL_nil ⟨_, ?_, k + 1, _, hstep, by rw [show done1 q x = (⟨#[]⟩, false) from by simp [done1, k2]]; rfl, by omega, rfl, st⟩
          omega
        · by_cases k3 : x.kind = 3
          · (repeat (first | refine go ?_ | refine goC ?_))
            refine c_draw ((.q 0 (.q 2 (.q 3 (.e1 1 (.q 4 (.e1 5 (.q 6 (.q 7 (.q 8 (.q 9 (.q 10 .done)))))))))))) (fun w' => In H w' ∧ Blk w' g (encN x) 67) (by kernel_rfl) (fun w' hg _ => ⟨(st.grow hg).mem, (m2.grow0 hg).blk⟩) fun w3 hw3 _ => ?_
            have st := st.grow hw3
            have m2 := m2.grow0 hw3
            (repeat (first | refine god ?_ | refine godC ?_))
            refine r_call Try.func105 rfl rfl rfl rfl (number105 st.mem) ?_
            rintro v w4 ⟨H1, st1, rfl, rfl⟩
            have st := st.call st1
            have m2 := m2.call st1
            refine ⟨fun _ => ⟨st.mem, m2.blk⟩, ?_⟩
            (repeat (first | refine god ?_ | refine godC ?_))
            refine qst_pure (p_addU rfl rfl) ?_
            (repeat (first | refine god ?_ | refine godC ?_))
            refine r_call Try.func104 rfl rfl rfl rfl (num104 (k := 8) st.mem (by omega) (by omega) (by omega) (by omega)) ?_
            rintro v w5 ⟨H2, st2, rfl, rfl⟩
            have st := st.call st2
            have m2 := m2.call st2
            refine ⟨fun _ => ⟨st.mem, m2.blk⟩, ?_⟩
            (repeat (first | refine god ?_ | refine godC ?_))
            (repeat (first | refine go ?_ | refine goC ?_))
            refine oL_nil ⟨_, ?_, k + 1, _, hstep, by rw [show done1 q x = (ofBytes (numS ((numOf q.1 + x.n) % 18446744073709551616) 8), true) from by simp [done1, k3]]; rfl, by omega, rfl, st⟩
            omega
          · (repeat (first | refine go ?_ | refine goC ?_))
            refine oL_nil ⟨_, ?_, k + 1, _, hstep, by rw [show done1 q x = q from by simp [done1, k1, k2, k3]]; rfl, by omega, rfl, st⟩
            omega
    · obtain rfl : k = xs.length := by omega
      rw [List.take_length] at hq
      (repeat (first | refine go ?_ | refine goC ?_))
      exact ⟨H, st, rfl, by rw [← hq]⟩
end Go.Proofs.FW
