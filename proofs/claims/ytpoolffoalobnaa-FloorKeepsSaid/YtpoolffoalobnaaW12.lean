/- Lemmas on the way to a statement of this seat: rules for walks, contracts of functions, and plain facts; each is proved, under the conditions that stand in it. -/
import Derived.Test.YtpoolffoalobnaaW11
set_option linter.all false
namespace Go.Proofs.FW
open Go Go.Proofs Go.RowKit
attribute [local irreducible] Calls opsV ost oL codeV drawV endV operV opV quietV quietO regionV PureOp At To Fnc qst shpB fldB slcB zroB
set_option maxRecDepth 100000
set_option maxHeartbeats 8000000

theorem deleteFunc77 {w0 w : World} {H0 H : Mem} {s f : Value} {xs : List Pair} {p : Pair → Bool} (st : St w0 H0 H w) (m : ME encP 2 w0 H w 59 s xs) (hb : xs.length ≤ 140737488355328) (hf : ∀ x ∈ xs, CbB Try.prog f H (.agg (encP x).toArray) (p x)) :
    MutW Try.prog 77 [s, f] w0 H0 H w s.ownBlock fun r w' => ME encP 2 w0 H w' 59 r (xs.filter fun x => !p x) := by
  obtain ⟨a, cap, rfl, hc⟩ := m.shape
  ((first | unfold Fnc | unfold FncW | unfold MutW | skip); refine enter mixed (fn := Try.f77) Try.func77 Try.ntmps77 (by kernel_rfl) (by kernel_rfl) rfl ?_)
  (repeat (first | refine go ?_ | refine goC ?_))
  obtain ⟨H1, st1, hle, hre, _⟩ := m.publish st encP_one
  refine r_call Try.func106 rfl rfl rfl rfl (index106 st1.mem hre hb (fun x hx => (hf x hx).mono hle)) ?_
  rintro v w1 ⟨H2, st2, rfl, rfl⟩
  have hg1 := st2.grown
  have st := st.back st2
  have m := m.grow0 hg1
  cases hfi : xs.findIdx? p with
  | none =>
    have hpos : posOf p xs = -1 := by unfold posOf; rw [hfi]
    rw [hpos]
    (repeat (first | refine go ?_ | refine goC ?_))
    rw [List.findIdx?_eq_none_iff] at hfi
    have hall : (xs.filter fun x => !p x) = xs := List.filter_eq_self.2 fun x hx => by simp [hfi x hx]
    exact ⟨st, grownBy.any hg1 _, by rw [hall]; exact m⟩
  | some i0 =>
    have hpos : posOf p xs = i0 := by unfold posOf; rw [hfi]
    rw [hpos]
    rw [List.findIdx?_eq_some_iff_getElem] at hfi
    obtain ⟨hi0, hp0, hlow⟩ := hfi
    obtain ⟨g, cap', rst0, hv, _, _, _, _⟩ := m.pos (by omega)
    cases hv
    (repeat (first | refine go ?_ | refine goC ?_))
    have hg1' : w.grownBy w1 (some g) := grownBy.any hg1 _
    refine c_loop [0, 1, 5, 6] (fun n vs w' => ∃ (i j : Nat) (zs : List Pair), vs = [.slice (some ⟨g, 0, none⟩) zs.length cap, f, .int .i64 i, .int .i64 j] ∧ i < j ∧ j ≤ xs.length ∧ n = xs.length - j ∧ zs.length = xs.length ∧ zs.take i = (xs.take j).filter (fun x => !p x) ∧ zs.drop j = xs.drop j ∧ St w0 H0 H w' ∧ ME encP 2 w0 H w' 59 (.slice (some ⟨g, 0, none⟩) zs.length cap) zs ∧ w.grownBy w' (some g))
      ⟨_, i0, i0 + 1, xs, rfl, by omega, by omega, rfl, rfl, ?_, rfl, st, m, hg1'⟩ ?_
    · rw [List.take_succ_eq_append_getElem hi0, List.filter_append]
      have h1 : (xs.take i0).filter (fun x => !p x) = xs.take i0 := List.filter_eq_self.2 fun x hx => by
        obtain ⟨j, hj, rfl⟩ := List.getElem_of_mem hx
        rw [List.getElem_take]
        have hj' : j < i0 := by simp at hj; omega
        simpa using hlow j hj'
      rw [h1]; simp [hp0]
    rintro n vs w' σ ⟨i, j, zs, rfl, hij, hj, rfl, hz, htake, hdrop, st, m, hgr⟩
    (repeat (first | refine go ?_ | refine goC ?_))
    refine c_dec rfl (fun hlt => ?_) (fun hge => ?_)
    · have hjn : j < xs.length := by omega
      obtain ⟨x, hx⟩ : ∃ x, xs[j]? = some x := ⟨_, List.getElem?_eq_getElem hjn⟩
      have hzx : zs[j]? = some x := by
        have := congrArg (fun l => l[0]?) hdrop
        simpa [hx] using this
      have hj0 : ((j : Int)).toNat = j := by omega
      have hxs : xs.take (j + 1) = xs.take j ++ [x] := by
        obtain ⟨hk', rfl⟩ := List.getElem?_eq_some_iff.1 hx
        exact List.take_succ_eq_append_getElem hk'
      have hdrop' : zs.drop (j + 1) = xs.drop (j + 1) := by rw [← List.drop_drop, ← List.drop_drop, hdrop]
      (repeat (first | refine go ?_ | refine goC ?_))
      refine r_at (a_loadE (u := x) encP_len m hzx (by rw [hj0]; omega) rfl) ?_
      (repeat (first | refine go ?_ | refine goC ?_))
      refine e_alloc st (cs := [_,_]) rfl fun g2 w2 hg2 hw2 m2 => ?_
      have hgg : g ≠ g2 := by
        obtain ⟨g', cap', rst, hv, hb', _⟩ := m.pos (by omega)
        cases hv
        have := hb'.blk.lt
        omega
      have st := st.grow hw2
      have m := m.grow0 hw2
      have hgr2 : w.grownBy w2 (some g) := grownBy.trans hgr (grownBy.any hw2 _)
      (repeat (first | refine go ?_ | refine goC ?_))
      refine e_storeN (vs := encP x) rfl m2 rfl (encP_one x) (by simp [encP_len]) fun w3 hw3 m3 => ?_
      replace m3 : MineB w0 H w3 g2 (encP x) 59 := m3
      have st := st.write hw3 m3.base m3.off
      have m : ME encP 2 w0 H w3 59 _ zs := Mine.grow m hw3 (.inr (by simpa [Value.ownBlock] using hgg))
      (repeat (first | refine go ?_ | refine goC ?_))
      refine r_cbB rfl rfl st (hf x (List.mem_of_getElem? hx)) fun w4 hc4 st => ?_
      have m := m.call hc4
      have m3 := m3.call hc4
      have hgr4 : w.grownBy w4 (some g) := by
        refine grownBy.trans (b := w3) ?_ (grownBy.any hc4.grown _)
        exact ⟨hw3.os.trans hgr2.os, hw3.tape.trans hgr2.tape, hw3.output.trans hgr2.output, Nat.le_trans hgr2.size hw3.size, fun k hk hne => by
          have hks : k < w'.heap.size := Nat.lt_of_lt_of_le hk hgr.size
          rw [← hgr2.block k hk hne]
          exact hw3.block k (Nat.lt_of_lt_of_le hk hgr2.size) (by simp; omega)⟩
      cases hp : p x with
      | true =>
        (repeat (first | refine go ?_ | refine goC ?_))
        refine oL_nil ⟨_, ?_, i, j + 1, zs, rfl, by omega, by omega, rfl, hz, ?_, hdrop', st, m, hgr4⟩
        · omega
        · rw [htake, hxs, List.filter_append]; simp [hp]
      | false =>
        have hiz : ((i : Int)).toNat = i := by omega
        (repeat (first | refine go ?_ | refine goC ?_))
        refine e_storeE (u := x) encP_len encP_one st m (i := i) (by omega) (by rw [hiz]; omega) rfl rfl fun w5 hw5 st m => ?_
        (repeat (first | refine go ?_ | refine goC ?_))
        refine oL_nil ⟨_, ?_, i + 1, j + 1, zs.set i x, by rw [List.length_set]; rfl, by omega, by omega, rfl, by rw [List.length_set]; exact hz, ?_, ?_, st, by rw [List.length_set]; exact m, grownBy.trans hgr4 hw5⟩
        · omega
        · rw [hxs, List.filter_append, ← htake]
          have : (zs.set i x).take (i + 1) = zs.take i ++ [x] := by
            rw [List.take_succ_eq_append_getElem (by rw [List.length_set]; omega)]
            simp [List.take_set_of_le]
          rw [this]; simp [hp]
        · rw [List.drop_set_of_lt (by omega)]; exact hdrop'
    · obtain rfl : j = xs.length := by omega
      obtain ⟨g', cap', rst, hv, hb', hnc, hcm, hcl⟩ := m.pos (by omega)
      cases hv
      have hlf : (zs.take i).length = i := by rw [List.length_take]; omega
      have hsp : zs.flatMap encP ++ rst = (zs.take i).flatMap encP ++ ((zs.drop i).flatMap encP ++ rst) := by rw [← List.append_assoc, ← flat_part]
      have lA : ((zs.take i).flatMap encP).length = i * 2 := by rw [flat_len encP_len, hlf]
      have lB : ((zs.drop i).flatMap encP).length = (zs.length - i) * 2 := by rw [flat_len encP_len, List.length_drop]
      rw [hsp] at hb'
      (repeat (first | refine go ?_ | refine goC ?_))
      refine r_pure (p_sliceL (l := i) (r := zs.length - i) (c' := cap - i) rfl rfl rfl (by omega) (by omega) (by omega) rfl) ?_
      (repeat (first | refine go ?_ | refine goC ?_))
      refine e_clear st hb' (by rw [lA]; omega) (by rw [List.length_append, lB]; omega) (by simp [Value.oneCell', Value.cells]) rfl rfl fun w5 rst' hl' hw5 st hb5 => ?_
      (repeat (first | refine go ?_ | refine goC ?_))
      refine r_pure (p_sliceH (h := i) rfl rfl rfl (by omega)) ?_
      (repeat (first | refine go ?_ | refine goC ?_))
      refine ⟨st, grownBy.trans hgr hw5, ?_⟩
      rw [List.take_length] at htake
      have := ME.mk' (xs := zs.take i) encP_len hb5 (by omega) hcm (by rw [List.length_append, lA, hl', List.length_append, lB]; rw [List.length_append, flat_len encP_len] at hcl; omega)
      rw [hlf, htake] at this
      exact this
theorem deleteFunc28 {w0 w : World} {H0 H : Mem} {s f : Value} {xs : List Sub} {p : Sub → Bool} (st : St w0 H0 H w) (m : ME encU 7 w0 H w 37 s xs) (hb : xs.length ≤ 140737488355328) (hf : ∀ x ∈ xs, CbB Try.prog f H (.agg (encU x).toArray) (p x)) :
    MutW Try.prog 28 [s, f] w0 H0 H w s.ownBlock fun r w' => ME encU 7 w0 H w' 37 r (xs.filter fun x => !p x) := by
  obtain ⟨a, cap, rfl, hc⟩ := m.shape
  ((first | unfold Fnc | unfold FncW | unfold MutW | skip); refine enter mixed (fn := Try.f28) Try.func28 Try.ntmps28 (by kernel_rfl) (by kernel_rfl) rfl ?_)
  (repeat (first | refine go ?_ | refine goC ?_))
  obtain ⟨H1, st1, hle, hre, _⟩ := m.publish st encU_one
  refine r_call Try.func52 rfl rfl rfl rfl (index52 st1.mem hre hb (fun x hx => (hf x hx).mono hle)) ?_
  rintro v w1 ⟨H2, st2, rfl, rfl⟩
  have hg1 := st2.grown
  have st := st.back st2
  have m := m.grow0 hg1
  cases hfi : xs.findIdx? p with
  | none =>
    have hpos : posOf p xs = -1 := by unfold posOf; rw [hfi]
    rw [hpos]
    (repeat (first | refine go ?_ | refine goC ?_))
    rw [List.findIdx?_eq_none_iff] at hfi
    have hall : (xs.filter fun x => !p x) = xs := List.filter_eq_self.2 fun x hx => by simp [hfi x hx]
    exact ⟨st, grownBy.any hg1 _, by rw [hall]; exact m⟩
  | some i0 =>
    have hpos : posOf p xs = i0 := by unfold posOf; rw [hfi]
    rw [hpos]
    rw [List.findIdx?_eq_some_iff_getElem] at hfi
    obtain ⟨hi0, hp0, hlow⟩ := hfi
    obtain ⟨g, cap', rst0, hv, _, _, _, _⟩ := m.pos (by omega)
    cases hv
    (repeat (first | refine go ?_ | refine goC ?_))
    have hg1' : w.grownBy w1 (some g) := grownBy.any hg1 _
    refine c_loop [0, 1, 5, 6] (fun n vs w' => ∃ (i j : Nat) (zs : List Sub), vs = [.slice (some ⟨g, 0, none⟩) zs.length cap, f, .int .i64 i, .int .i64 j] ∧ i < j ∧ j ≤ xs.length ∧ n = xs.length - j ∧ zs.length = xs.length ∧ zs.take i = (xs.take j).filter (fun x => !p x) ∧ zs.drop j = xs.drop j ∧ St w0 H0 H w' ∧ ME encU 7 w0 H w' 37 (.slice (some ⟨g, 0, none⟩) zs.length cap) zs ∧ w.grownBy w' (some g))
      ⟨_, i0, i0 + 1, xs, rfl, by omega, by omega, rfl, rfl, ?_, rfl, st, m, hg1'⟩ ?_
    · rw [List.take_succ_eq_append_getElem hi0, List.filter_append]
      have h1 : (xs.take i0).filter (fun x => !p x) = xs.take i0 := List.filter_eq_self.2 fun x hx => by
        obtain ⟨j, hj, rfl⟩ := List.getElem_of_mem hx
        rw [List.getElem_take]
        have hj' : j < i0 := by simp at hj; omega
        simpa using hlow j hj'
      rw [h1]; simp [hp0]
    rintro n vs w' σ ⟨i, j, zs, rfl, hij, hj, rfl, hz, htake, hdrop, st, m, hgr⟩
    (repeat (first | refine go ?_ | refine goC ?_))
    refine c_dec rfl (fun hlt => ?_) (fun hge => ?_)
    · have hjn : j < xs.length := by omega
      obtain ⟨x, hx⟩ : ∃ x, xs[j]? = some x := ⟨_, List.getElem?_eq_getElem hjn⟩
      have hzx : zs[j]? = some x := by
        have := congrArg (fun l => l[0]?) hdrop
        simpa [hx] using this
      have hj0 : ((j : Int)).toNat = j := by omega
      have hxs : xs.take (j + 1) = xs.take j ++ [x] := by
        obtain ⟨hk', rfl⟩ := List.getElem?_eq_some_iff.1 hx
        exact List.take_succ_eq_append_getElem hk'
      have hdrop' : zs.drop (j + 1) = xs.drop (j + 1) := by rw [← List.drop_drop, ← List.drop_drop, hdrop]
      (repeat (first | refine go ?_ | refine goC ?_))
      refine r_at (a_loadE (u := x) encU_len m hzx (by rw [hj0]; omega) rfl) ?_
      (repeat (first | refine go ?_ | refine goC ?_))
      refine e_alloc st (cs := [_,_,_,_,_,_,_]) rfl fun g2 w2 hg2 hw2 m2 => ?_
      have hgg : g ≠ g2 := by
        obtain ⟨g', cap', rst, hv, hb', _⟩ := m.pos (by omega)
        cases hv
        have := hb'.blk.lt
        omega
      have st := st.grow hw2
      have m := m.grow0 hw2
      have hgr2 : w.grownBy w2 (some g) := grownBy.trans hgr (grownBy.any hw2 _)
      (repeat (first | refine go ?_ | refine goC ?_))
      refine e_storeN (vs := encU x) rfl m2 rfl (encU_one x) (by simp [encU_len]) fun w3 hw3 m3 => ?_
      replace m3 : MineB w0 H w3 g2 (encU x) 37 := m3
      have st := st.write hw3 m3.base m3.off
      have m : ME encU 7 w0 H w3 37 _ zs := Mine.grow m hw3 (.inr (by simpa [Value.ownBlock] using hgg))
      (repeat (first | refine go ?_ | refine goC ?_))
      refine r_cbB rfl rfl st (hf x (List.mem_of_getElem? hx)) fun w4 hc4 st => ?_
      have m := m.call hc4
      have m3 := m3.call hc4
      have hgr4 : w.grownBy w4 (some g) := by
        refine grownBy.trans (b := w3) ?_ (grownBy.any hc4.grown _)
        exact ⟨hw3.os.trans hgr2.os, hw3.tape.trans hgr2.tape, hw3.output.trans hgr2.output, Nat.le_trans hgr2.size hw3.size, fun k hk hne => by
          have hks : k < w'.heap.size := Nat.lt_of_lt_of_le hk hgr.size
          rw [← hgr2.block k hk hne]
          exact hw3.block k (Nat.lt_of_lt_of_le hk hgr2.size) (by simp; omega)⟩
      cases hp : p x with
      | true =>
        (repeat (first | refine go ?_ | refine goC ?_))
        refine oL_nil ⟨_, ?_, i, j + 1, zs, rfl, by omega, by omega, rfl, hz, ?_, hdrop', st, m, hgr4⟩
        · omega
        · rw [htake, hxs, List.filter_append]; simp [hp]
      | false =>
        have hiz : ((i : Int)).toNat = i := by omega
        (repeat (first | refine go ?_ | refine goC ?_))
        refine e_storeE (u := x) encU_len encU_one st m (i := i) (by omega) (by rw [hiz]; omega) rfl rfl fun w5 hw5 st m => ?_
        (repeat (first | refine go ?_ | refine goC ?_))
        refine oL_nil ⟨_, ?_, i + 1, j + 1, zs.set i x, by rw [List.length_set]; rfl, by omega, by omega, rfl, by rw [List.length_set]; exact hz, ?_, ?_, st, by rw [List.length_set]; exact m, grownBy.trans hgr4 hw5⟩
        · omega
        · rw [hxs, List.filter_append, ← htake]
          have : (zs.set i x).take (i + 1) = zs.take i ++ [x] := by
            rw [List.take_succ_eq_append_getElem (by rw [List.length_set]; omega)]
            simp [List.take_set_of_le]
          rw [this]; simp [hp]
        · rw [List.drop_set_of_lt (by omega)]; exact hdrop'
    · obtain rfl : j = xs.length := by omega
      obtain ⟨g', cap', rst, hv, hb', hnc, hcm, hcl⟩ := m.pos (by omega)
      cases hv
      have hlf : (zs.take i).length = i := by rw [List.length_take]; omega
      have hsp : zs.flatMap encU ++ rst = (zs.take i).flatMap encU ++ ((zs.drop i).flatMap encU ++ rst) := by rw [← List.append_assoc, ← flat_part]
      have lA : ((zs.take i).flatMap encU).length = i * 7 := by rw [flat_len encU_len, hlf]
      have lB : ((zs.drop i).flatMap encU).length = (zs.length - i) * 7 := by rw [flat_len encU_len, List.length_drop]
      rw [hsp] at hb'
      (repeat (first | refine go ?_ | refine goC ?_))
      refine r_pure (p_sliceL (l := i) (r := zs.length - i) (c' := cap - i) rfl rfl rfl (by omega) (by omega) (by omega) rfl) ?_
      (repeat (first | refine go ?_ | refine goC ?_))
      refine e_clear st hb' (by rw [lA]; omega) (by rw [List.length_append, lB]; omega) (by simp [Value.oneCell', Value.cells]) rfl rfl fun w5 rst' hl' hw5 st hb5 => ?_
      (repeat (first | refine go ?_ | refine goC ?_))
      refine r_pure (p_sliceH (h := i) rfl rfl rfl (by omega)) ?_
      (repeat (first | refine go ?_ | refine goC ?_))
      refine ⟨st, grownBy.trans hgr hw5, ?_⟩
      rw [List.take_length] at htake
      have := ME.mk' (xs := zs.take i) encU_len hb5 (by omega) hcm (by rw [List.length_append, lA, hl', List.length_append, lB]; rw [List.length_append, flat_len encU_len] at hcl; omega)
      rw [hlf, htake] at this
      exact this
theorem deleteFunc109 {w0 w : World} {H0 H : Mem} {s f : Value} {xs : List Chg} {p : Chg → Bool} (st : St w0 H0 H w) (m : ME encC 6 w0 H w 76 s xs) (hb : xs.length ≤ 140737488355328) (hf : ∀ x ∈ xs, CbB Try.prog f H (.agg (encC x).toArray) (p x)) :
    MutW Try.prog 109 [s, f] w0 H0 H w s.ownBlock fun r w' => ME encC 6 w0 H w' 76 r (xs.filter fun x => !p x) := by
  obtain ⟨a, cap, rfl, hc⟩ := m.shape
  ((first | unfold Fnc | unfold FncW | unfold MutW | skip); refine enter mixed (fn := Try.f109) Try.func109 Try.ntmps109 (by kernel_rfl) (by kernel_rfl) rfl ?_)
  (repeat (first | refine go ?_ | refine goC ?_))
  obtain ⟨H1, st1, hle, hre, _⟩ := m.publish st encC_one
  refine r_call Try.func127 rfl rfl rfl rfl (index127 st1.mem hre hb (fun x hx => (hf x hx).mono hle)) ?_
  rintro v w1 ⟨H2, st2, rfl, rfl⟩
  have hg1 := st2.grown
  have st := st.back st2
  have m := m.grow0 hg1
  cases hfi : xs.findIdx? p with
  | none =>
    have hpos : posOf p xs = -1 := by unfold posOf; rw [hfi]
    rw [hpos]
    (repeat (first | refine go ?_ | refine goC ?_))
    rw [List.findIdx?_eq_none_iff] at hfi
    have hall : (xs.filter fun x => !p x) = xs := List.filter_eq_self.2 fun x hx => by simp [hfi x hx]
    exact ⟨st, grownBy.any hg1 _, by rw [hall]; exact m⟩
  | some i0 =>
    have hpos : posOf p xs = i0 := by unfold posOf; rw [hfi]
    rw [hpos]
    rw [List.findIdx?_eq_some_iff_getElem] at hfi
    obtain ⟨hi0, hp0, hlow⟩ := hfi
    obtain ⟨g, cap', rst0, hv, _, _, _, _⟩ := m.pos (by omega)
    cases hv
    (repeat (first | refine go ?_ | refine goC ?_))
    have hg1' : w.grownBy w1 (some g) := grownBy.any hg1 _
    refine c_loop [0, 1, 5, 6] (fun n vs w' => ∃ (i j : Nat) (zs : List Chg), vs = [.slice (some ⟨g, 0, none⟩) zs.length cap, f, .int .i64 i, .int .i64 j] ∧ i < j ∧ j ≤ xs.length ∧ n = xs.length - j ∧ zs.length = xs.length ∧ zs.take i = (xs.take j).filter (fun x => !p x) ∧ zs.drop j = xs.drop j ∧ St w0 H0 H w' ∧ ME encC 6 w0 H w' 76 (.slice (some ⟨g, 0, none⟩) zs.length cap) zs ∧ w.grownBy w' (some g))
      ⟨_, i0, i0 + 1, xs, rfl, by omega, by omega, rfl, rfl, ?_, rfl, st, m, hg1'⟩ ?_
    · rw [List.take_succ_eq_append_getElem hi0, List.filter_append]
      have h1 : (xs.take i0).filter (fun x => !p x) = xs.take i0 := List.filter_eq_self.2 fun x hx => by
        obtain ⟨j, hj, rfl⟩ := List.getElem_of_mem hx
        rw [List.getElem_take]
        have hj' : j < i0 := by simp at hj; omega
        simpa using hlow j hj'
      rw [h1]; simp [hp0]
    rintro n vs w' σ ⟨i, j, zs, rfl, hij, hj, rfl, hz, htake, hdrop, st, m, hgr⟩
    (repeat (first | refine go ?_ | refine goC ?_))
    refine c_dec rfl (fun hlt => ?_) (fun hge => ?_)
    · have hjn : j < xs.length := by omega
      obtain ⟨x, hx⟩ : ∃ x, xs[j]? = some x := ⟨_, List.getElem?_eq_getElem hjn⟩
      have hzx : zs[j]? = some x := by
        have := congrArg (fun l => l[0]?) hdrop
        simpa [hx] using this
      have hj0 : ((j : Int)).toNat = j := by omega
      have hxs : xs.take (j + 1) = xs.take j ++ [x] := by
        obtain ⟨hk', rfl⟩ := List.getElem?_eq_some_iff.1 hx
        exact List.take_succ_eq_append_getElem hk'
      have hdrop' : zs.drop (j + 1) = xs.drop (j + 1) := by rw [← List.drop_drop, ← List.drop_drop, hdrop]
      (repeat (first | refine go ?_ | refine goC ?_))
      refine r_at (a_loadE (u := x) encC_len m hzx (by rw [hj0]; omega) rfl) ?_
      (repeat (first | refine go ?_ | refine goC ?_))
      refine e_alloc st (cs := [_,_,_,_,_,_]) rfl fun g2 w2 hg2 hw2 m2 => ?_
      have hgg : g ≠ g2 := by
        obtain ⟨g', cap', rst, hv, hb', _⟩ := m.pos (by omega)
        cases hv
        have := hb'.blk.lt
        omega
      have st := st.grow hw2
      have m := m.grow0 hw2
      have hgr2 : w.grownBy w2 (some g) := grownBy.trans hgr (grownBy.any hw2 _)
      (repeat (first | refine go ?_ | refine goC ?_))
      refine e_storeN (vs := encC x) rfl m2 rfl (encC_one x) (by simp [encC_len]) fun w3 hw3 m3 => ?_
      replace m3 : MineB w0 H w3 g2 (encC x) 76 := m3
      have st := st.write hw3 m3.base m3.off
      have m : ME encC 6 w0 H w3 76 _ zs := Mine.grow m hw3 (.inr (by simpa [Value.ownBlock] using hgg))
      (repeat (first | refine go ?_ | refine goC ?_))
      refine r_cbB rfl rfl st (hf x (List.mem_of_getElem? hx)) fun w4 hc4 st => ?_
      have m := m.call hc4
      have m3 := m3.call hc4
      have hgr4 : w.grownBy w4 (some g) := by
        refine grownBy.trans (b := w3) ?_ (grownBy.any hc4.grown _)
        exact ⟨hw3.os.trans hgr2.os, hw3.tape.trans hgr2.tape, hw3.output.trans hgr2.output, Nat.le_trans hgr2.size hw3.size, fun k hk hne => by
          have hks : k < w'.heap.size := Nat.lt_of_lt_of_le hk hgr.size
          rw [← hgr2.block k hk hne]
          exact hw3.block k (Nat.lt_of_lt_of_le hk hgr2.size) (by simp; omega)⟩
      cases hp : p x with
      | true =>
        (repeat (first | refine go ?_ | refine goC ?_))
        refine oL_nil ⟨_, ?_, i, j + 1, zs, rfl, by omega, by omega, rfl, hz, ?_, hdrop', st, m, hgr4⟩
        · omega
        · rw [htake, hxs, List.filter_append]; simp [hp]
      | false =>
        have hiz : ((i : Int)).toNat = i := by omega
        (repeat (first | refine go ?_ | refine goC ?_))
        refine e_storeE (u := x) encC_len encC_one st m (i := i) (by omega) (by rw [hiz]; omega) rfl rfl fun w5 hw5 st m => ?_
        (repeat (first | refine go ?_ | refine goC ?_))
        refine oL_nil ⟨_, ?_, i + 1, j + 1, zs.set i x, by rw [List.length_set]; rfl, by omega, by omega, rfl, by rw [List.length_set]; exact hz, ?_, ?_, st, by rw [List.length_set]; exact m, grownBy.trans hgr4 hw5⟩
        · omega
        · rw [hxs, List.filter_append, ← htake]
          have : (zs.set i x).take (i + 1) = zs.take i ++ [x] := by
            rw [List.take_succ_eq_append_getElem (by rw [List.length_set]; omega)]
            simp [List.take_set_of_le]
          rw [this]; simp [hp]
        · rw [List.drop_set_of_lt (by omega)]; exact hdrop'
    · obtain rfl : j = xs.length := by omega
      obtain ⟨g', cap', rst, hv, hb', hnc, hcm, hcl⟩ := m.pos (by omega)
      cases hv
      have hlf : (zs.take i).length = i := by rw [List.length_take]; omega
      have hsp : zs.flatMap encC ++ rst = (zs.take i).flatMap encC ++ ((zs.drop i).flatMap encC ++ rst) := by rw [← List.append_assoc, ← flat_part]
      have lA : ((zs.take i).flatMap encC).length = i * 6 := by rw [flat_len encC_len, hlf]
      have lB : ((zs.drop i).flatMap encC).length = (zs.length - i) * 6 := by rw [flat_len encC_len, List.length_drop]
      rw [hsp] at hb'
      (repeat (first | refine go ?_ | refine goC ?_))
      refine r_pure (p_sliceL (l := i) (r := zs.length - i) (c' := cap - i) rfl rfl rfl (by omega) (by omega) (by omega) rfl) ?_
      (repeat (first | refine go ?_ | refine goC ?_))
      refine e_clear st hb' (by rw [lA]; omega) (by rw [List.length_append, lB]; omega) (by simp [Value.oneCell', Value.cells]) rfl rfl fun w5 rst' hl' hw5 st hb5 => ?_
      (repeat (first | refine go ?_ | refine goC ?_))
      refine r_pure (p_sliceH (h := i) rfl rfl rfl (by omega)) ?_
      (repeat (first | refine go ?_ | refine goC ?_))
      refine ⟨st, grownBy.trans hgr hw5, ?_⟩
      rw [List.take_length] at htake
      have := ME.mk' (xs := zs.take i) encC_len hb5 (by omega) hcm (by rw [List.length_append, lA, hl', List.length_append, lB]; rw [List.length_append, flat_len encC_len] at hcl; omega)
      rw [hlf, htake] at this
      exact this
end Go.Proofs.FW
