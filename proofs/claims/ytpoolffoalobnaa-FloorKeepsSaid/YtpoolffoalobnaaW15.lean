/- Lemmas on the way to a statement of this seat: rules for walks, contracts of functions, and plain facts; each is proved, under the conditions that stand in it. -/
import Derived.Test.YtpoolffoalobnaaW14
import Derived.Test.YtpoolffoalobnaaW1
set_option linter.all false
namespace Go.Proofs.FW
open Go Go.Proofs Go.RowKit
attribute [local irreducible] Calls opsV ost oL codeV drawV endV operV opV quietV quietO regionV PureOp At To Fnc qst shpB fldB slcB zroB
set_option maxRecDepth 100000
set_option maxHeartbeats 8000000

theorem place33 {H : Mem} {w : World} {v : Value} {xs : List Sub} {id : Int} (hH : In H w) (hr : RE encU 7 H v xs) (hb : xs.length ≤ 140737488355328) :
    FncW Try.prog 33 [v, .int .i64 id] H w fun H' u _ => H' = H ∧ ∃ i, Stops (fun x => cmpI x.id id) xs i ∧ u = .tuple #[.int .i64 i, .bool (hit (fun x => cmpI x.id id) xs i)] := by
  have st := St.init hH
  ((first | unfold Fnc | unfold FncW | unfold MutW | skip); refine enter mixed (fn := Try.f33) Try.func33 Try.ntmps33 (by kernel_rfl) (by kernel_rfl) rfl ?_)
  (repeat (first | refine go ?_ | refine goC ?_))
  refine r_call Try.func56 rfl rfl rfl rfl (search56 st.mem hr hb fun x _ => place1_57 x id H) ?_
  rintro v w1 ⟨H1, st1, rfl, i, hs, rfl⟩
  have st := st.call st1
  (repeat (first | refine go ?_ | refine goC ?_))
  exact ⟨_, st, rfl, i, hs, rfl⟩

theorem find13 {H : Mem} {w : World} {v : Value} {xs : List Sub} {id : Int} (hH : In H w) (hr : RE encU 7 H v xs) (hb : xs.length ≤ 140737488355328) :
    FncW Try.prog 13 [v, .int .i64 id] H w fun H' u _ => H' = H ∧ u = .tuple #[.agg (encU (findU xs id).1).toArray, .int .i64 (findU xs id).2] := by
  have st := St.init hH
  obtain ⟨a, cap, rfl, hc⟩ := hr.shape
  ((first | unfold Fnc | unfold FncW | unfold MutW | skip); refine enter mixed (fn := Try.f13) Try.func13 Try.ntmps13 (by kernel_rfl) (by kernel_rfl) rfl ?_)
  (repeat (first | refine go ?_ | refine goC ?_))
  refine e_alloc st (cs := encU subZero) rfl fun g w1 hg hw m1 => ?_
  have st := st.grow hw
  (repeat (first | refine go ?_ | refine goC ?_))
  refine r_call Try.func14 rfl rfl rfl rfl (right14 st.mem hr hb) ?_
  rintro v w2 ⟨H1, st1, rfl, rfl⟩
  have st := st.call st1
  have m1 := m1.call st1
  cases hok : floorOk xs
  · (repeat (first | refine go ?_ | refine goC ?_))
    refine e_storeN (vs := encU subZero) rfl m1 rfl (encU_one _) (by simp [encU]) fun w3 hw3 m3 => ?_
    have st := st.write hw3 m3.base m3.off
    replace m3 : MineB w H1 w3 g (encU subZero) 37 := m3
    (repeat (first | refine go ?_ | refine goC ?_))
    refine e_endCell2 rfl rfl (by conv => lhs; whnf) m3 ⟨_, st, rfl, ?_⟩
    simp [findU, hok]
  · (repeat (first | refine go ?_ | refine goC ?_))
    refine r_call Try.func33 rfl rfl rfl rfl (place33 st.mem hr hb) ?_
    rintro v w3 ⟨H2, st2, rfl, i, hs, rfl⟩
    have st := st.call st2
    have m1 := m1.call st2
    have hpw := (subsFrom_iff.1 (by unfold floorOk at hok; exact (Bool.and_eq_true _ _ ▸ hok).1)).2.2
    have hfs := find_stops hpw hs
    cases hh : hit (fun x => cmpI x.id id) xs i
    · (repeat (first | refine go ?_ | refine goC ?_))
      refine e_storeN (vs := encU subZero) rfl m1 rfl (encU_one _) (by simp [encU]) fun w3 hw3 m3 => ?_
      have st := st.write hw3 m3.base m3.off
      replace m3 : MineB w H2 w3 g (encU subZero) 37 := m3
      (repeat (first | refine go ?_ | refine goC ?_))
      refine e_endCell2 rfl rfl (by conv => lhs; whnf) m3 ⟨_, st, rfl, ?_⟩
      simp [findU, hok, hfs.2 hh]
    · obtain ⟨x, hx, hf⟩ := hfs.1 hh
      have hi := (List.getElem?_eq_some_iff.1 hx).1
      obtain ⟨b, o, cap', h1, _, hcell⟩ := hr.pos encU_len (by omega)
      cases h1
      have hce := hcell i x hx
      have hkk : ((i : Int)).toNat = i := by omega
      (repeat (first | refine go ?_ | refine goC ?_))
      refine r_at (a_loadR (u := x) (enc := encU) st (by rw [hkk]; exact hce) rfl) ?_
      (repeat (first | refine go ?_ | refine goC ?_))
      refine e_storeN (vs := encU x) rfl m1 rfl (encU_one _) (by simp [encU]) fun w3 hw3 m3 => ?_
      have st := st.write hw3 m3.base m3.off
      replace m3 : MineB w H2 w3 g (encU x) 37 := m3
      (repeat (first | refine go ?_ | refine goC ?_))
      refine e_endCell2 rfl rfl (by conv => lhs; whnf) m3 ⟨_, st, rfl, ?_⟩
      simp [findU, hok, hf]

theorem leave1_30 {H : Mem} {g : Nat} {id : Int} (x : Sub) (hg : H g 0 = some (.int .i64 id)) : CbB Try.prog (.func (.func 30) #[] #[.pointer (some ⟨g, 0, none⟩)]) H (.agg (encU x).toArray) (decide (x.id = id)) := by
  refine ⟨30, _, rfl, ⟨Try.f30, Try.func30, rfl, rfl⟩, fun w hH => ?_⟩
  show Calls Try.prog 30 [.agg (encU x).toArray, .pointer (some ⟨g, 0, none⟩)].toArray w _
  have st := St.init hH
  ((first | unfold Fnc | unfold FncW | unfold MutW | skip); refine enter mixed (fn := Try.f30) Try.func30 Try.ntmps30 (by kernel_rfl) (by kernel_rfl) rfl ?_)
  (repeat (first | refine go ?_ | refine goC ?_))
  refine e_box rfl (cs := encU x) rfl st fun g1 w1 hg1 hw m1 => ?_
  have st := st.grow hw
  (repeat (first | refine go ?_ | refine goC ?_))
  exact ⟨rfl, st⟩

theorem leave11 {H : Mem} {w : World} {v : Value} {xs : List Sub} {id : Int} (hH : In H w) (hr : RE encU 7 H v xs) (hb : xs.length ≤ 1000000000000) :
    FncW Try.prog 11 [v, .int .i64 id] H w fun H' u _ => ∃ r, u = .tuple #[r, .int .i64 (leaveL xs id).2] ∧ RE encU 7 H' r (leaveL xs id).1 := by
  have st := St.init hH
  ((first | unfold Fnc | unfold FncW | unfold MutW | skip); refine enter mixed (fn := Try.f11) Try.func11 Try.ntmps11 (by kernel_rfl) (by kernel_rfl) rfl ?_)
  (repeat (first | refine go ?_ | refine goC ?_))
  refine e_box rfl (cs := [.int .i64 id]) rfl st fun g w1 hg hw m1 => ?_
  have st := st.grow hw
  obtain ⟨st, hle, _⟩ := m1.publish st
  have hgi : (H.pub g [.int .i64 id]) g 0 = some (.int .i64 id) := by rw [Mem.pub_own]; rfl
  have hr := hr.mono hle
  generalize H.pub g [.int .i64 id] = H1 at st hle hgi hr
  (repeat (first | refine go ?_ | refine goC ?_))
  refine r_call Try.func13 rfl rfl rfl rfl (find13 st.mem hr (by omega)) ?_
  rintro v2 w2 ⟨H1, st1, rfl, rfl⟩
  have st := st.call st1
  (repeat (first | refine go ?_ | refine goC ?_))
  refine e_alloc st (cs := encU subZero) rfl fun g2 w3 hg2 hw3 m2 => ?_
  have st := st.grow hw3
  (repeat (first | refine go ?_ | refine goC ?_))
  refine e_storeN (vs := encU (findU xs id).1) rfl m2 rfl (encU_one _) (by simp [encU]) fun w4 hw4 m4 => ?_
  have st := st.write hw4 m4.base m4.off
  by_cases he : (findU xs id).2 = 0
  · (repeat (first | refine go ?_ | refine goC ?_))
    refine r_call Try.func29 rfl rfl rfl rfl (clone29 st.mem hr (by omega)) ?_
    rintro v2 w5 ⟨H2, st2, rfl, mv⟩
    have mv : ME encU 7 w H2 w5 37 v2 xs := Mine.base mv st.size
    have st := st.call st2
    (repeat (first | refine go ?_ | refine goC ?_))
    refine r_call Try.func28 rfl rfl rfl rfl (deleteFunc28 st mv (by omega) fun x _ => leave1_30 x hgi) ?_
    rintro v3 w6 ⟨st, hg6, m6⟩
    (repeat (first | refine go ?_ | refine goC ?_))
    obtain ⟨H3, st, hle3, hre, _⟩ := m6.publish st encU_one
    refine ⟨_, st, v3, ?_, ?_⟩
    · simp [leaveL, he]
    · simp only [leaveL, he, if_true]; exact hre
  · (repeat (first | refine go ?_ | refine goC ?_))
    refine ⟨_, st, v, ?_, ?_⟩
    · simp [leaveL, he]
    · simp only [leaveL, he, if_false]; exact hr

theorem add12 {H : Mem} {w : World} {v : Value} {xs : List Sub} {s : Sub} (hH : In H w) (hr : RE encU 7 H v xs) (hb : xs.length ≤ 1000000000000) :
    FncW Try.prog 12 [v, .agg (encU s).toArray] H w fun H' u _ => ∃ r, u = .tuple #[r, .int .i64 (addL xs s).2.1, .int .i64 (addL xs s).2.2] ∧ RE encU 7 H' r (addL xs s).1 := by
  have st := St.init hH
  obtain ⟨a, cap, rfl, hc⟩ := hr.shape
  cases h1 : floorOk xs
  ·
    ((first | unfold Fnc | unfold FncW | unfold MutW | skip); refine enter mixed (fn := Try.f12) Try.func12 Try.ntmps12 (by kernel_rfl) (by kernel_rfl) rfl ?_)
    (repeat (first | refine go ?_ | refine goC ?_))
    refine e_box rfl (cs := encU s) rfl st fun g w1 hg hw m1 => ?_
    have st := st.grow hw
    (repeat (first | refine go ?_ | refine goC ?_))
    refine r_call Try.func14 rfl rfl rfl rfl (right14 st.mem hr (by omega)) ?_
    rintro v2 w2 ⟨H1, st1, rfl, rfl⟩
    have st := st.call st1
    have m1 := m1.call st1
    rw [h1]
    (repeat (first | refine go ?_ | refine goC ?_))
    exact ⟨_, st, .slice a xs.length cap, by simp [addL, h1], by simp only [addL, h1]; exact hr⟩
  cases h2 : subOk s
  ·
    ((first | unfold Fnc | unfold FncW | unfold MutW | skip); refine enter mixed (fn := Try.f12) Try.func12 Try.ntmps12 (by kernel_rfl) (by kernel_rfl) rfl ?_)
    (repeat (first | refine go ?_ | refine goC ?_))
    refine e_box rfl (cs := encU s) rfl st fun g w1 hg hw m1 => ?_
    have st := st.grow hw
    (repeat (first | refine go ?_ | refine goC ?_))
    refine r_call Try.func14 rfl rfl rfl rfl (right14 st.mem hr (by omega)) ?_
    rintro v2 w2 ⟨H1, st1, rfl, rfl⟩
    have st := st.call st1
    have m1 := m1.call st1
    rw [h1]
    (repeat (first | refine go ?_ | refine goC ?_))
    refine r_call Try.func31 rfl rfl rfl rfl (right31 st.mem) ?_
    rintro v2 w3 ⟨H2, st2, rfl, rfl⟩
    have st := st.call st2
    have m1 := m1.call st2
    rw [h2]
    (repeat (first | refine go ?_ | refine goC ?_))
    exact ⟨_, st, .slice a xs.length cap, by simp [addL, h2], by simp only [addL, h1, h2]; exact hr⟩
  by_cases h3 : 4 ≤ xs.length
  ·
    ((first | unfold Fnc | unfold FncW | unfold MutW | skip); refine enter mixed (fn := Try.f12) Try.func12 Try.ntmps12 (by kernel_rfl) (by kernel_rfl) rfl ?_)
    (repeat (first | refine go ?_ | refine goC ?_))
    refine e_box rfl (cs := encU s) rfl st fun g w1 hg hw m1 => ?_
    have st := st.grow hw
    (repeat (first | refine go ?_ | refine goC ?_))
    refine r_call Try.func14 rfl rfl rfl rfl (right14 st.mem hr (by omega)) ?_
    rintro v2 w2 ⟨H1, st1, rfl, rfl⟩
    have st := st.call st1
    have m1 := m1.call st1
    rw [h1]
    (repeat (first | refine go ?_ | refine goC ?_))
    refine r_call Try.func31 rfl rfl rfl rfl (right31 st.mem) ?_
    rintro v2 w3 ⟨H2, st2, rfl, rfl⟩
    have st := st.call st2
    have m1 := m1.call st2
    rw [h2]
    (repeat (first | refine go ?_ | refine goC ?_))
    exact ⟨_, st, .slice a xs.length cap, by simp [addL, h1, h2, h3], by simp only [addL, h1, h2, h3, Bool.and_self, if_true]; exact hr⟩
  ((first | unfold Fnc | unfold FncW | unfold MutW | skip); refine enter mixed (fn := Try.f12) Try.func12 Try.ntmps12 (by kernel_rfl) (by kernel_rfl) rfl ?_)
  (repeat (first | refine go ?_ | refine goC ?_))
  refine e_box rfl (cs := encU s) rfl st fun g w1 hg hw m1 => ?_
  have st := st.grow hw
  (repeat (first | refine go ?_ | refine goC ?_))
  refine r_call Try.func14 rfl rfl rfl rfl (right14 st.mem hr (by omega)) ?_
  rintro v2 w2 ⟨H1, st1, rfl, rfl⟩
  have st := st.call st1
  have m1 := m1.call st1
  rw [h1]
  (repeat (first | refine go ?_ | refine goC ?_))
  refine r_call Try.func31 rfl rfl rfl rfl (right31 st.mem) ?_
  rintro v2 w3 ⟨H2, st2, rfl, rfl⟩
  have st := st.call st2
  have m1 := m1.call st2
  rw [h2]
  (repeat (first | refine go ?_ | refine goC ?_))
  refine c_loop [0, 3, 7] (fun n vs w' => ∃ k : Nat, vs = [.slice a xs.length cap, .pointer (some ⟨g, 0, none⟩), .int .i64 k] ∧ k ≤ xs.length ∧ n = xs.length - k ∧ St w H2 H2 w' ∧ MineB w H2 w' g (encU s) 37 ∧ gapFrom 0 xs = gapFrom k (xs.drop k)) ⟨_, 0, rfl, by omega, rfl, st, m1, rfl⟩ ?_
  rintro n vs w' σ ⟨k, rfl, hk, rfl, st, m1, hgap⟩
  by_cases hlt : k < xs.length
  · obtain ⟨b, o, cap', h1', _, hcell⟩ := hr.pos encU_len (by omega)
    cases h1'
    obtain ⟨x, hx⟩ : ∃ x, xs[k]? = some x := ⟨_, List.getElem?_eq_getElem hlt⟩
    have hce := hcell k x hx 0 _ rfl
    have hkk : ((k : Int)).toNat = k := by omega
    rw [← hkk] at hce
    have hdr : xs.drop k = x :: xs.drop (k + 1) := by
      obtain ⟨hk', rfl⟩ := List.getElem?_eq_some_iff.1 hx
      exact List.drop_eq_getElem_cons hk'
    by_cases hid : x.id = (k : Int) + 1
    · (repeat (first | refine go ?_ | refine goC ?_))
      refine oL_nil ⟨_, ?_, k + 1, rfl, by omega, rfl, st, m1, by rw [hgap, hdr]; simp [gapFrom, hid]⟩
      omega
    · have hgx : gapFrom 0 xs = k := by rw [hgap, hdr]; simp [gapFrom, hid]
      (repeat (first | refine go ?_ | refine goC ?_))
      refine e_store1 rfl m1 (by conv => lhs; whnf) rfl (by simp [encU]) fun w4 hw4 m4 => ?_
      have st := st.write hw4 m4.base m4.off
      replace m4 : MineB w H2 w4 g (encU { s with id := (k : Int) + 1 }) 37 := m4
      generalize hs' : ({ s with id := (k : Int) + 1 } : Sub) = s' at m4
      have hs2 : s'.id = (k : Int) + 1 := by rw [← hs']
      (repeat (first | refine go ?_ | refine goC ?_))
      refine c_draw ((.q 0 (.q 2 (.q 3 (.q 6 (.q 7 (.e2 1 (.e1 4 (.e1 5 (.q 8 (.q 9 (.q 10 .done))))) 4 (.e1 1 (.e1 5 (.q 8 (.q 9 (.q 10 .done)))))))))))) (fun w' => In H2 w' ∧ Blk w' g (encU s') 37) (by kernel_rfl) (fun w' hg _ => ⟨(st.grow hg).mem, (m4.grow0 hg).blk⟩) fun w5 hw5 _ => ?_
      have st := st.grow hw5
      have m4 := m4.grow0 hw5
      (repeat (first | refine god ?_ | refine godC ?_))
      refine d_two ?_ ?_
      · (repeat (first | refine god ?_ | refine godC ?_))
        refine r_call Try.func29 rfl rfl rfl rfl (clone29 st.mem hr (by omega)) ?_
        rintro v2 w6 ⟨H3, st3, rfl, mv⟩
        have hne4 : v2.ownBlock ≠ some g := fun e => by have h5 := (mv.own.lt g e).1; have h6 := m4.blk.lt; omega
        have mv : ME encU 7 w H3 w6 37 v2 xs := Mine.base mv st.size
        have st := st.call st3
        have m4 := m4.call st3
        refine ⟨fun _ => ⟨st.mem, m4.blk⟩, ?_⟩
        (repeat (first | refine god ?_ | refine godC ?_))
        refine e_buildSlice1 (cells := encU s') st rfl rfl rfl rfl rfl fun g6 w7 hg6 hw7 m6 => ?_
        have hne6 : v2.ownBlock ≠ some g6 := fun e => by have := (mv.own.lt g6 e).2; omega
        have st := st.grow hw7
        have mv := mv.grow0 hw7
        have m4 := m4.grow0 hw7
        refine ⟨fun _ => ⟨st.mem, m4.blk⟩, ?_⟩
        (repeat (first | refine god ?_ | refine godC ?_))
        have hgk := (gapFrom_le 0 xs).2
        refine r_call Try.func32 rfl rfl rfl rfl (insert32 (s := v2) (x := s') (i := k) st mv m6 hne6 hk (by omega)) ?_
        rintro v3 w8 ⟨st, hg8, m8⟩
        have m4 := m4.grow hg8 (Ne.symm hne4)
        refine ⟨fun _ => ⟨st.mem, m4.blk⟩, ?_⟩
        (repeat (first | refine god ?_ | refine godC ?_))
        (repeat (first | refine go ?_ | refine goC ?_))
        obtain ⟨H4, st, hle4, hre, _⟩ := m8.publish st encU_one
        have ha : addL xs s = (xs.take k ++ s' :: xs.drop k, (k : Int) + 1, 0) := by
          unfold addL; rw [h1, h2, hgx, hs']; simp [h3]
        refine ⟨_, st, v3, by rw [ha, hs2], by rw [ha]; exact hre⟩
      · (repeat (first | refine god ?_ | refine godC ?_))
        refine e_buildSlice1 (cells := encU s') st rfl rfl rfl rfl rfl fun g6 w6 hg6 hw6 m6 => ?_
        have st := st.grow hw6
        have m4 := m4.grow0 hw6
        refine ⟨fun _ => ⟨st.mem, m4.blk⟩, ?_⟩
        (repeat (first | refine god ?_ | refine godC ?_))
        refine r_call Try.func29 rfl rfl rfl rfl (clone29 st.mem hr (by omega)) ?_
        rintro v2 w7 ⟨H3, st3, rfl, mv⟩
        have hne4 : v2.ownBlock ≠ some g := fun e => by have h5 := (mv.own.lt g e).1; have h6 := m4.blk.lt; omega
        have hne6 : v2.ownBlock ≠ some g6 := fun e => by have h5 := (mv.own.lt g6 e).1; have h6 := m6.blk.lt; omega
        have mv : ME encU 7 w H3 w7 37 v2 xs := Mine.base mv st.size
        have st := st.call st3
        have m4 := m4.call st3
        have m6 := m6.call st3
        refine ⟨fun _ => ⟨st.mem, m4.blk⟩, ?_⟩
        (repeat (first | refine god ?_ | refine godC ?_))
        have hgk := (gapFrom_le 0 xs).2
        refine r_call Try.func32 rfl rfl rfl rfl (insert32 (s := v2) (x := s') (i := k) st mv m6 hne6 hk (by omega)) ?_
        rintro v3 w8 ⟨st, hg8, m8⟩
        have m4 := m4.grow hg8 (Ne.symm hne4)
        refine ⟨fun _ => ⟨st.mem, m4.blk⟩, ?_⟩
        (repeat (first | refine god ?_ | refine godC ?_))
        (repeat (first | refine go ?_ | refine goC ?_))
        obtain ⟨H4, st, hle4, hre, _⟩ := m8.publish st encU_one
        have ha : addL xs s = (xs.take k ++ s' :: xs.drop k, (k : Int) + 1, 0) := by
          unfold addL; rw [h1, h2, hgx, hs']; simp [h3]
        refine ⟨_, st, v3, by rw [ha, hs2], by rw [ha]; exact hre⟩
  · have hgx : gapFrom 0 xs = k := by rw [hgap, List.drop_eq_nil_of_le (by omega)]; rfl
    (repeat (first | refine go ?_ | refine goC ?_))
    refine e_store1 rfl m1 (by conv => lhs; whnf) rfl (by simp [encU]) fun w4 hw4 m4 => ?_
    have st := st.write hw4 m4.base m4.off
    replace m4 : MineB w H2 w4 g (encU { s with id := (k : Int) + 1 }) 37 := m4
    generalize hs' : ({ s with id := (k : Int) + 1 } : Sub) = s' at m4
    have hs2 : s'.id = (k : Int) + 1 := by rw [← hs']
    (repeat (first | refine go ?_ | refine goC ?_))
    refine c_draw ((.q 0 (.q 2 (.q 3 (.q 6 (.q 7 (.e2 1 (.e1 4 (.e1 5 (.q 8 (.q 9 (.q 10 .done))))) 4 (.e1 1 (.e1 5 (.q 8 (.q 9 (.q 10 .done)))))))))))) (fun w' => In H2 w' ∧ Blk w' g (encU s') 37) (by kernel_rfl) (fun w' hg _ => ⟨(st.grow hg).mem, (m4.grow0 hg).blk⟩) fun w5 hw5 _ => ?_
    have st := st.grow hw5
    have m4 := m4.grow0 hw5
    (repeat (first | refine god ?_ | refine godC ?_))
    refine d_two ?_ ?_
    · (repeat (first | refine god ?_ | refine godC ?_))
      refine r_call Try.func29 rfl rfl rfl rfl (clone29 st.mem hr (by omega)) ?_
      rintro v2 w6 ⟨H3, st3, rfl, mv⟩
      have hne4 : v2.ownBlock ≠ some g := fun e => by have h5 := (mv.own.lt g e).1; have h6 := m4.blk.lt; omega
      have mv : ME encU 7 w H3 w6 37 v2 xs := Mine.base mv st.size
      have st := st.call st3
      have m4 := m4.call st3
      refine ⟨fun _ => ⟨st.mem, m4.blk⟩, ?_⟩
      (repeat (first | refine god ?_ | refine godC ?_))
      refine e_buildSlice1 (cells := encU s') st rfl rfl rfl rfl rfl fun g6 w7 hg6 hw7 m6 => ?_
      have hne6 : v2.ownBlock ≠ some g6 := fun e => by have := (mv.own.lt g6 e).2; omega
      have st := st.grow hw7
      have mv := mv.grow0 hw7
      have m4 := m4.grow0 hw7
      refine ⟨fun _ => ⟨st.mem, m4.blk⟩, ?_⟩
      (repeat (first | refine god ?_ | refine godC ?_))
      have hgk := (gapFrom_le 0 xs).2
      refine r_call Try.func32 rfl rfl rfl rfl (insert32 (s := v2) (x := s') (i := k) st mv m6 hne6 hk (by omega)) ?_
      rintro v3 w8 ⟨st, hg8, m8⟩
      have m4 := m4.grow hg8 (Ne.symm hne4)
      refine ⟨fun _ => ⟨st.mem, m4.blk⟩, ?_⟩
      (repeat (first | refine god ?_ | refine godC ?_))
      (repeat (first | refine go ?_ | refine goC ?_))
      obtain ⟨H4, st, hle4, hre, _⟩ := m8.publish st encU_one
      have ha : addL xs s = (xs.take k ++ s' :: xs.drop k, (k : Int) + 1, 0) := by
        unfold addL; rw [h1, h2, hgx, hs']; simp [h3]
      refine ⟨_, st, v3, by rw [ha, hs2], by rw [ha]; exact hre⟩
    · (repeat (first | refine god ?_ | refine godC ?_))
      refine e_buildSlice1 (cells := encU s') st rfl rfl rfl rfl rfl fun g6 w6 hg6 hw6 m6 => ?_
      have st := st.grow hw6
      have m4 := m4.grow0 hw6
      refine ⟨fun _ => ⟨st.mem, m4.blk⟩, ?_⟩
      (repeat (first | refine god ?_ | refine godC ?_))
      refine r_call Try.func29 rfl rfl rfl rfl (clone29 st.mem hr (by omega)) ?_
      rintro v2 w7 ⟨H3, st3, rfl, mv⟩
      have hne4 : v2.ownBlock ≠ some g := fun e => by have h5 := (mv.own.lt g e).1; have h6 := m4.blk.lt; omega
      have hne6 : v2.ownBlock ≠ some g6 := fun e => by have h5 := (mv.own.lt g6 e).1; have h6 := m6.blk.lt; omega
      have mv : ME encU 7 w H3 w7 37 v2 xs := Mine.base mv st.size
      have st := st.call st3
      have m4 := m4.call st3
      have m6 := m6.call st3
      refine ⟨fun _ => ⟨st.mem, m4.blk⟩, ?_⟩
      (repeat (first | refine god ?_ | refine godC ?_))
      have hgk := (gapFrom_le 0 xs).2
      refine r_call Try.func32 rfl rfl rfl rfl (insert32 (s := v2) (x := s') (i := k) st mv m6 hne6 hk (by omega)) ?_
      rintro v3 w8 ⟨st, hg8, m8⟩
      have m4 := m4.grow hg8 (Ne.symm hne4)
      refine ⟨fun _ => ⟨st.mem, m4.blk⟩, ?_⟩
      (repeat (first | refine god ?_ | refine godC ?_))
      (repeat (first | refine go ?_ | refine goC ?_))
      obtain ⟨H4, st, hle4, hre, _⟩ := m8.publish st encU_one
      have ha : addL xs s = (xs.take k ++ s' :: xs.drop k, (k : Int) + 1, 0) := by
        unfold addL; rw [h1, h2, hgx, hs']; simp [h3]
      refine ⟨_, st, v3, by rw [ha, hs2], by rw [ha]; exact hre⟩
end Go.Proofs.FW
