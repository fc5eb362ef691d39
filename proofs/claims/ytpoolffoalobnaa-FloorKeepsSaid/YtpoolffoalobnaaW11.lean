/- Lemmas on the way to a statement of this seat: rules for walks, contracts of functions, and plain facts; each is proved, under the conditions that stand in it. -/
import Derived.Test.YtpoolffoalobnaaW10
import Derived.Test.YtpoolffoalobnaaFW15
set_option linter.all false
namespace Go.Proofs.FW
open Go Go.Proofs Go.RowKit
attribute [local irreducible] Calls opsV ost oL codeV drawV endV operV opV quietV quietO regionV PureOp At To Fnc qst shpB fldB slcB zroB
set_option maxRecDepth 100000
set_option maxHeartbeats 8000000

theorem insert91 {w0 w : World} {H0 H : Mem} {s : Value} {xs : List Pair} {x : Pair} {i gv : Nat} (st : St w0 H0 H w) (m : ME encP 2 w0 H w 59 s xs) (mv : MineB w0 H w gv (encP x) 59) (hne : s.ownBlock ≠ some gv) (hi : i ≤ xs.length) (hb : (xs.length + 1) * 32 ≤ 140737488355328) :
    MutW Try.prog 91 [s, .int .i64 i, .slice (some ⟨gv, 0, none⟩) 1 1] w0 H0 H w s.ownBlock fun r w' => ME encP 2 w0 H w' 59 r (xs.take i ++ x :: xs.drop i) := by
  have hcv : ∀ (j : Nat) u, (encP x)[j]? = some u → w.cell? ⟨gv, 0 + j, none⟩ = some u := fun j u hu => by rw [Nat.zero_add]; exact mv.blk.cell hu
  have lA : ((xs.take i).flatMap encP).length = i * 2 := by rw [flat_len encP_len, List.length_take, Nat.min_eq_left hi]
  have lB : ((xs.drop i).flatMap encP).length = (xs.length - i) * 2 := by rw [flat_len encP_len, List.length_drop]
  have lN : (xs.take i ++ x :: xs.drop i).length = xs.length + 1 := by simp; omega
  rcases Mine.cases m with ⟨rfl, hl, _⟩ | ⟨g, cap, rst, rfl, hb', hnc, hcm, hcl⟩
  · obtain rfl : xs = [] := List.eq_nil_of_length_eq_zero hl
    obtain rfl : i = 0 := by simpa using hi
    ((first | unfold Fnc | unfold FncW | unfold MutW | skip); refine enter mixed (fn := Try.f91) Try.func91 Try.ntmps91 (by kernel_rfl) (by kernel_rfl) rfl ?_)
    (repeat (first | refine go ?_ | refine goC ?_))
    refine r_pure (p_sliceNil rfl (sb_l (by omega) (by omega))) ?_
    (repeat (first | refine go ?_ | refine goC ?_))
    refine e_append st rfl rfl rfl m (news := encP x) (by simp [encP_len]) hcv (encP_one x) (by omega) (by simp [maxLen]) (by simp) fun v' w' hg' st m' => ?_
    (repeat (first | refine go ?_ | refine goC ?_))
    exact ⟨st, hg', m'⟩
  · by_cases hn : i = xs.length
    · subst hn
      ((first | unfold Fnc | unfold FncW | unfold MutW | skip); refine enter mixed (fn := Try.f91) Try.func91 Try.ntmps91 (by kernel_rfl) (by kernel_rfl) rfl ?_)
      (repeat (first | refine go ?_ | refine goC ?_))
      refine r_pure (p_slice rfl (sb_l (by omega) (by omega))) ?_
      (repeat (first | refine go ?_ | refine goC ?_))
      refine e_append st rfl rfl rfl m (news := encP x) (by simp [encP_len]) hcv (encP_one x) (by omega) (by simp only [maxLen]; omega) (by omega) fun v' w' hg' st m' => ?_
      (repeat (first | refine go ?_ | refine goC ?_))
      refine ⟨st, hg', ?_⟩
      simpa [ME, List.flatMap_append] using m'
    · have hln : i < xs.length := by omega
      by_cases hroom : xs.length + 1 ≤ cap
      · ((first | unfold Fnc | unfold FncW | unfold MutW | skip); refine enter mixed (fn := Try.f91) Try.func91 Try.ntmps91 (by kernel_rfl) (by kernel_rfl) rfl ?_)
        (repeat (first | refine go ?_ | refine goC ?_))
        refine r_pure (p_sliceL (l := i) (r := xs.length - i) (c' := cap - i) rfl rfl rfl (by omega) (by omega) (by omega) rfl) ?_
        (repeat (first | refine go ?_ | refine goC ?_))
        refine r_pure (p_sliceH (h := xs.length + 1) rfl rfl rfl (by omega)) ?_
        (repeat (first | refine go ?_ | refine goC ?_))
        refine r_pure (p_sliceL (l := i + 1) (r := xs.length - i) (c' := cap - (i + 1)) rfl rfl rfl (by omega) (by omega) (by omega) rfl) ?_
        (repeat (first | refine go ?_ | refine goC ?_))
        refine r_extern Try.func115 (by kernel_rfl) (by kernel_rfl) (by kernel_rfl) (e := Extern.SlicesOverlaps.overlaps #[47, 47] #[4]) (by kernel_rfl) rfl rfl (run_apart mv.blk hb'.blk (by simpa [Value.ownBlock] using Ne.symm (by simpa [Value.ownBlock] using hne)) (by intro h0; have := congrArg List.length h0; simp [flat_len encP_len] at this; omega)) ?_
        (repeat (first | refine go ?_ | refine goC ?_))
        have hcl' := hcl
        rw [List.length_append, flat_len encP_len] at hcl'
        refine c_draw ((.q 0 (.q 1 (.q 2 (.q 3 (.q 4 (.q 5 (.q 6 (.q 7 (.e1 8 .done)))))))))) (fun _ => True) (by kernel_rfl) (fun _ _ _ => trivial) fun w3 hw3 _ => ?_
        have st := st.grow hw3
        have hb' := hb'.grow0 hw3
        have mv := mv.grow0 hw3
        (repeat (first | refine god ?_ | refine godC ?_))
        refine qst_pure (p_sliceL (l := i + 1) (r := xs.length - i) (c' := cap - (i + 1)) rfl rfl rfl (by omega) (by omega) (by omega) rfl) ?_
        (repeat (first | refine god ?_ | refine godC ?_))
        refine qst_pure (p_sliceL (l := i) (r := xs.length + 1 - i) (c' := cap - i) rfl rfl rfl (by omega) (by omega) (by omega) rfl) ?_
        (repeat (first | refine god ?_ | refine godC ?_))
        refine e_copy (k := xs.length - i) (cs := (xs.drop i).flatMap encP) rfl rfl rfl hb' (Nat.min_eq_right (by omega)) lB (fun j u hu => by rw [Nat.zero_add]; exact hb'.blk.cell (drop_cell encP_len hu)) (by rw [lB, hcl]; omega) (flat_one encP_one _) fun w4 hw4 m4 => ⟨fun _ => trivial, ?_⟩
        have st := st.write hw4 m4.base m4.off
        have mv := mv.grow hw4 (by simpa [Value.ownBlock, eq_comm] using hne)
        (repeat (first | refine god ?_ | refine godC ?_))
        (repeat (first | refine go ?_ | refine goC ?_))
        refine r_pure (p_sliceL (l := i) (r := xs.length + 1 - i) (c' := cap - i) rfl rfl rfl (by omega) (by omega) (by omega) rfl) ?_
        (repeat (first | refine go ?_ | refine goC ?_))
        refine e_copy (k := 1) (cs := encP x) rfl rfl rfl m4 (Nat.min_eq_left (by omega)) (by rw [encP_len]) (fun j u hu => by rw [Nat.zero_add]; exact mv.blk.cell hu) ?_ (encP_one x) fun w5 hw5 m5 => ?_
        · rw [encP_len]; simp [lB, hcl]; omega
        have st := st.write hw5 m5.base m5.off
        have hx : MineB w0 H w5 g ((xs.take i ++ x :: xs.drop i).flatMap encP ++ rst.drop 2) 59 := by
          have := ins_cells (A := (xs.take i).flatMap encP) (B := (xs.drop i).flatMap encP) (X := encP x) (R := rst) lA (encP_len x) lB (by omega)
          rw [flat_ins, ← this, ← flat_part]
          have h2 := m5
          rw [lB, Nat.zero_add, Nat.zero_add, encP_len, Nat.add_mul, Nat.one_mul] at h2
          exact h2
        (repeat (first | refine go ?_ | refine goC ?_))
        refine ⟨st, ?_, ?_⟩
        · exact grownBy.trans (grownBy.trans (grownBy.any hw3 _) hw4) hw5
        · have := ME.mk' encP_len hx (by omega) hcm (by rw [List.length_append, flat_len encP_len, lN, List.length_drop]; omega)
          rwa [lN] at this
      · ((first | unfold Fnc | unfold FncW | unfold MutW | skip); refine enter mixed (fn := Try.f91) Try.func91 Try.ntmps91 (by kernel_rfl) (by kernel_rfl) rfl ?_)
        (repeat (first | refine go ?_ | refine goC ?_))
        refine r_pure (p_sliceL (l := i) (r := xs.length - i) (c' := cap - i) rfl rfl rfl (by omega) (by omega) (by omega) rfl) ?_
        (repeat (first | refine go ?_ | refine goC ?_))
        refine r_pure (p_sliceH (h := i) rfl rfl rfl (by omega)) ?_
        (repeat (first | refine go ?_ | refine goC ?_))
        have hfl : xs.flatMap encP ++ rst = (xs.take i).flatMap encP ++ ((xs.drop i).flatMap encP ++ rst) := by rw [← List.append_assoc, ← flat_part]
        refine e_appendZ (olds := (xs.take i).flatMap encP) (k := xs.length + 1 - i) st rfl rfl (by omega) rfl hb' (by rw [hfl, ← lA, List.take_left]) lA (by omega) rfl (by omega) (by simp only [maxLen]; omega) (by rw [show i + (xs.length + 1 - i) = xs.length + 1 by omega]; exact hb) fun g' w3 cap' rest hg' hw3 hc' hcm' hcl' mg => ?_
        have st := st.grow hw3
        have hgg : g ≠ g' := by have := hb'.blk.lt; omega
        have hgv : gv ≠ g' := by have := mv.blk.lt; omega
        have hb' := hb'.grow0 hw3
        have mv := mv.grow0 hw3
        have hcl2 := hcl'
        rw [List.length_append, lA] at hcl2
        have hge : (xs.length + 1) * 2 ≤ cap' * 2 := Nat.mul_le_mul_right _ (by omega)
        have hR : 2 + (xs.length - i) * 2 ≤ rest.length := by rw [Nat.sub_mul]; rw [Nat.add_mul] at hge; omega
        (repeat (first | refine go ?_ | refine goC ?_))
        refine r_pure (p_sliceL (l := i) (r := xs.length + 1 - i) (c' := cap' - i) rfl rfl rfl (by omega) (by omega) (by omega) rfl) ?_
        (repeat (first | refine go ?_ | refine goC ?_))
        refine e_copy (k := 1) (cs := encP x) rfl rfl rfl mg (Nat.min_eq_left (by omega)) (by rw [encP_len]) (fun j u hu => by rw [Nat.zero_add]; exact mv.blk.cell hu) ?_ (encP_one x) fun w4 hw4 m4 => ?_
        · rw [encP_len, hcl']; omega
        have st := st.write hw4 m4.base m4.off
        have hb' := hb'.grow hw4 (by simpa using hgg)
        (repeat (first | refine go ?_ | refine goC ?_))
        refine c_draw ((.q 0 (.q 1 (.q 2 (.q 3 (.q 4 (.q 5 (.q 6 (.q 7 (.e1 8 .done)))))))))) (fun _ => True) (by kernel_rfl) (fun _ _ _ => trivial) fun w5 hw5 _ => ?_
        have st := st.grow hw5
        have hb' := hb'.grow0 hw5
        have m4 := m4.grow0 hw5
        (repeat (first | refine god ?_ | refine godC ?_))
        refine qst_pure (p_sliceL (l := i + 1) (r := xs.length - i) (c' := cap' - (i + 1)) rfl rfl rfl (by omega) (by omega) (by omega) rfl) ?_
        (repeat (first | refine god ?_ | refine godC ?_))
        refine qst_pure (p_sliceL (l := i) (r := xs.length - i) (c' := cap - i) rfl rfl rfl (by omega) (by omega) (by omega) rfl) ?_
        (repeat (first | refine god ?_ | refine godC ?_))
        refine e_copy (k := xs.length - i) (cs := (xs.drop i).flatMap encP) rfl rfl rfl m4 (Nat.min_eq_left (by omega)) lB (fun j u hu => by rw [Nat.zero_add]; exact hb'.blk.cell (drop_cell encP_len hu)) ?_ (flat_one encP_one _) fun w6 hw6 m6 => ⟨fun _ => trivial, ?_⟩
        · rw [lB]; simp [encP_len, lA]; omega
        have st := st.write hw6 m6.base m6.off
        have hx : MineB w0 H w6 g' ((xs.take i ++ x :: xs.drop i).flatMap encP ++ rest.drop (2 + (xs.length - i) * 2)) 59 := by
          have := ins_cells2 (A := (xs.take i).flatMap encP) (B := (xs.drop i).flatMap encP) (X := encP x) (R := rest) lA (encP_len x) lB hR
          rw [flat_ins, ← this]
          have h2 := m6
          rw [lB, Nat.zero_add, Nat.zero_add, encP_len, Nat.add_mul, Nat.one_mul] at h2
          exact h2
        (repeat (first | refine god ?_ | refine godC ?_))
        (repeat (first | refine go ?_ | refine goC ?_))
        refine ⟨st, ?_, ?_⟩
        · have hlt := hg'
          exact ⟨hw6.os.trans (hw5.os.trans (hw4.os.trans hw3.os)), hw6.tape.trans (hw5.tape.trans (hw4.tape.trans hw3.tape)), hw6.output.trans (hw5.output.trans (hw4.output.trans hw3.output)), Nat.le_trans hw3.size (Nat.le_trans hw4.size (Nat.le_trans hw5.size hw6.size)),
            fun k hk hne' => by
              have h3 := hw3.block k hk (by simp)
              have hs3 : k < w3.heap.size := Nat.lt_of_lt_of_le hk hw3.size
              have hkg : some k ≠ some g' := by simp; omega
              have h4 := hw4.block k hs3 hkg
              have hs4 := Nat.lt_of_lt_of_le hs3 hw4.size
              have h5 := hw5.block k hs4 (by simp)
              exact (hw6.block k (Nat.lt_of_lt_of_le hs4 hw5.size) hkg).trans (h5.trans (h4.trans h3))⟩
        · have := ME.mk' encP_len hx (by omega) hcm' (by rw [List.length_append, flat_len encP_len, lN, List.length_drop]; rw [Nat.add_mul, Nat.one_mul]; rw [Nat.sub_mul] at hR ⊢; have := Nat.mul_le_mul_right 2 hi; omega)
          rw [lN] at this
          rwa [show i + (xs.length + 1 - i) = xs.length + 1 by omega]
theorem insert97 {w0 w : World} {H0 H : Mem} {s : Value} {xs : List Note} {x : Note} {i gv : Nat} (st : St w0 H0 H w) (m : ME encN 4 w0 H w 67 s xs) (mv : MineB w0 H w gv (encN x) 67) (hne : s.ownBlock ≠ some gv) (hi : i ≤ xs.length) (hb : (xs.length + 1) * 48 ≤ 140737488355328) :
    MutW Try.prog 97 [s, .int .i64 i, .slice (some ⟨gv, 0, none⟩) 1 1] w0 H0 H w s.ownBlock fun r w' => ME encN 4 w0 H w' 67 r (xs.take i ++ x :: xs.drop i) := by
  have hcv : ∀ (j : Nat) u, (encN x)[j]? = some u → w.cell? ⟨gv, 0 + j, none⟩ = some u := fun j u hu => by rw [Nat.zero_add]; exact mv.blk.cell hu
  have lA : ((xs.take i).flatMap encN).length = i * 4 := by rw [flat_len encN_len, List.length_take, Nat.min_eq_left hi]
  have lB : ((xs.drop i).flatMap encN).length = (xs.length - i) * 4 := by rw [flat_len encN_len, List.length_drop]
  have lN : (xs.take i ++ x :: xs.drop i).length = xs.length + 1 := by simp; omega
  rcases Mine.cases m with ⟨rfl, hl, _⟩ | ⟨g, cap, rst, rfl, hb', hnc, hcm, hcl⟩
  · obtain rfl : xs = [] := List.eq_nil_of_length_eq_zero hl
    obtain rfl : i = 0 := by simpa using hi
    ((first | unfold Fnc | unfold FncW | unfold MutW | skip); refine enter mixed (fn := Try.f97) Try.func97 Try.ntmps97 (by kernel_rfl) (by kernel_rfl) rfl ?_)
    (repeat (first | refine go ?_ | refine goC ?_))
    refine r_pure (p_sliceNil rfl (sb_l (by omega) (by omega))) ?_
    (repeat (first | refine go ?_ | refine goC ?_))
    refine e_append st rfl rfl rfl m (news := encN x) (by simp [encN_len]) hcv (encN_one x) (by omega) (by simp [maxLen]) (by simp) fun v' w' hg' st m' => ?_
    (repeat (first | refine go ?_ | refine goC ?_))
    exact ⟨st, hg', m'⟩
  · by_cases hn : i = xs.length
    · subst hn
      ((first | unfold Fnc | unfold FncW | unfold MutW | skip); refine enter mixed (fn := Try.f97) Try.func97 Try.ntmps97 (by kernel_rfl) (by kernel_rfl) rfl ?_)
      (repeat (first | refine go ?_ | refine goC ?_))
      refine r_pure (p_slice rfl (sb_l (by omega) (by omega))) ?_
      (repeat (first | refine go ?_ | refine goC ?_))
      refine e_append st rfl rfl rfl m (news := encN x) (by simp [encN_len]) hcv (encN_one x) (by omega) (by simp only [maxLen]; omega) (by omega) fun v' w' hg' st m' => ?_
      (repeat (first | refine go ?_ | refine goC ?_))
      refine ⟨st, hg', ?_⟩
      simpa [ME, List.flatMap_append] using m'
    · have hln : i < xs.length := by omega
      by_cases hroom : xs.length + 1 ≤ cap
      · ((first | unfold Fnc | unfold FncW | unfold MutW | skip); refine enter mixed (fn := Try.f97) Try.func97 Try.ntmps97 (by kernel_rfl) (by kernel_rfl) rfl ?_)
        (repeat (first | refine go ?_ | refine goC ?_))
        refine r_pure (p_sliceL (l := i) (r := xs.length - i) (c' := cap - i) rfl rfl rfl (by omega) (by omega) (by omega) rfl) ?_
        (repeat (first | refine go ?_ | refine goC ?_))
        refine r_pure (p_sliceH (h := xs.length + 1) rfl rfl rfl (by omega)) ?_
        (repeat (first | refine go ?_ | refine goC ?_))
        refine r_pure (p_sliceL (l := i + 1) (r := xs.length - i) (c' := cap - (i + 1)) rfl rfl rfl (by omega) (by omega) (by omega) rfl) ?_
        (repeat (first | refine go ?_ | refine goC ?_))
        refine r_extern Try.func119 (by kernel_rfl) (by kernel_rfl) (by kernel_rfl) (e := Extern.SlicesOverlaps.overlaps #[48, 48] #[4]) (by kernel_rfl) rfl rfl (run_apart mv.blk hb'.blk (by simpa [Value.ownBlock] using Ne.symm (by simpa [Value.ownBlock] using hne)) (by intro h0; have := congrArg List.length h0; simp [flat_len encN_len] at this; omega)) ?_
        (repeat (first | refine go ?_ | refine goC ?_))
        have hcl' := hcl
        rw [List.length_append, flat_len encN_len] at hcl'
        refine c_draw ((.q 0 (.q 1 (.q 2 (.q 3 (.q 4 (.q 5 (.q 6 (.q 7 (.e1 8 .done)))))))))) (fun _ => True) (by kernel_rfl) (fun _ _ _ => trivial) fun w3 hw3 _ => ?_
        have st := st.grow hw3
        have hb' := hb'.grow0 hw3
        have mv := mv.grow0 hw3
        (repeat (first | refine god ?_ | refine godC ?_))
        refine qst_pure (p_sliceL (l := i + 1) (r := xs.length - i) (c' := cap - (i + 1)) rfl rfl rfl (by omega) (by omega) (by omega) rfl) ?_
        (repeat (first | refine god ?_ | refine godC ?_))
        refine qst_pure (p_sliceL (l := i) (r := xs.length + 1 - i) (c' := cap - i) rfl rfl rfl (by omega) (by omega) (by omega) rfl) ?_
        (repeat (first | refine god ?_ | refine godC ?_))
        refine e_copy (k := xs.length - i) (cs := (xs.drop i).flatMap encN) rfl rfl rfl hb' (Nat.min_eq_right (by omega)) lB (fun j u hu => by rw [Nat.zero_add]; exact hb'.blk.cell (drop_cell encN_len hu)) (by rw [lB, hcl]; omega) (flat_one encN_one _) fun w4 hw4 m4 => ⟨fun _ => trivial, ?_⟩
        have st := st.write hw4 m4.base m4.off
        have mv := mv.grow hw4 (by simpa [Value.ownBlock, eq_comm] using hne)
        (repeat (first | refine god ?_ | refine godC ?_))
        (repeat (first | refine go ?_ | refine goC ?_))
        refine r_pure (p_sliceL (l := i) (r := xs.length + 1 - i) (c' := cap - i) rfl rfl rfl (by omega) (by omega) (by omega) rfl) ?_
        (repeat (first | refine go ?_ | refine goC ?_))
        refine e_copy (k := 1) (cs := encN x) rfl rfl rfl m4 (Nat.min_eq_left (by omega)) (by rw [encN_len]) (fun j u hu => by rw [Nat.zero_add]; exact mv.blk.cell hu) ?_ (encN_one x) fun w5 hw5 m5 => ?_
        · rw [encN_len]; simp [lB, hcl]; omega
        have st := st.write hw5 m5.base m5.off
        have hx : MineB w0 H w5 g ((xs.take i ++ x :: xs.drop i).flatMap encN ++ rst.drop 4) 67 := by
          have := ins_cells (A := (xs.take i).flatMap encN) (B := (xs.drop i).flatMap encN) (X := encN x) (R := rst) lA (encN_len x) lB (by omega)
          rw [flat_ins, ← this, ← flat_part]
          have h2 := m5
          rw [lB, Nat.zero_add, Nat.zero_add, encN_len, Nat.add_mul, Nat.one_mul] at h2
          exact h2
        (repeat (first | refine go ?_ | refine goC ?_))
        refine ⟨st, ?_, ?_⟩
        · exact grownBy.trans (grownBy.trans (grownBy.any hw3 _) hw4) hw5
        · have := ME.mk' encN_len hx (by omega) hcm (by rw [List.length_append, flat_len encN_len, lN, List.length_drop]; omega)
          rwa [lN] at this
      · ((first | unfold Fnc | unfold FncW | unfold MutW | skip); refine enter mixed (fn := Try.f97) Try.func97 Try.ntmps97 (by kernel_rfl) (by kernel_rfl) rfl ?_)
        (repeat (first | refine go ?_ | refine goC ?_))
        refine r_pure (p_sliceL (l := i) (r := xs.length - i) (c' := cap - i) rfl rfl rfl (by omega) (by omega) (by omega) rfl) ?_
        (repeat (first | refine go ?_ | refine goC ?_))
        refine r_pure (p_sliceH (h := i) rfl rfl rfl (by omega)) ?_
        (repeat (first | refine go ?_ | refine goC ?_))
        have hfl : xs.flatMap encN ++ rst = (xs.take i).flatMap encN ++ ((xs.drop i).flatMap encN ++ rst) := by rw [← List.append_assoc, ← flat_part]
        refine e_appendZ (olds := (xs.take i).flatMap encN) (k := xs.length + 1 - i) st rfl rfl (by omega) rfl hb' (by rw [hfl, ← lA, List.take_left]) lA (by omega) rfl (by omega) (by simp only [maxLen]; omega) (by rw [show i + (xs.length + 1 - i) = xs.length + 1 by omega]; exact hb) fun g' w3 cap' rest hg' hw3 hc' hcm' hcl' mg => ?_
        have st := st.grow hw3
        have hgg : g ≠ g' := by have := hb'.blk.lt; omega
        have hgv : gv ≠ g' := by have := mv.blk.lt; omega
        have hb' := hb'.grow0 hw3
        have mv := mv.grow0 hw3
        have hcl2 := hcl'
        rw [List.length_append, lA] at hcl2
        have hge : (xs.length + 1) * 4 ≤ cap' * 4 := Nat.mul_le_mul_right _ (by omega)
        have hR : 4 + (xs.length - i) * 4 ≤ rest.length := by rw [Nat.sub_mul]; rw [Nat.add_mul] at hge; omega
        (repeat (first | refine go ?_ | refine goC ?_))
        refine r_pure (p_sliceL (l := i) (r := xs.length + 1 - i) (c' := cap' - i) rfl rfl rfl (by omega) (by omega) (by omega) rfl) ?_
        (repeat (first | refine go ?_ | refine goC ?_))
        refine e_copy (k := 1) (cs := encN x) rfl rfl rfl mg (Nat.min_eq_left (by omega)) (by rw [encN_len]) (fun j u hu => by rw [Nat.zero_add]; exact mv.blk.cell hu) ?_ (encN_one x) fun w4 hw4 m4 => ?_
        · rw [encN_len, hcl']; omega
        have st := st.write hw4 m4.base m4.off
        have hb' := hb'.grow hw4 (by simpa using hgg)
        (repeat (first | refine go ?_ | refine goC ?_))
        refine c_draw ((.q 0 (.q 1 (.q 2 (.q 3 (.q 4 (.q 5 (.q 6 (.q 7 (.e1 8 .done)))))))))) (fun _ => True) (by kernel_rfl) (fun _ _ _ => trivial) fun w5 hw5 _ => ?_
        have st := st.grow hw5
        have hb' := hb'.grow0 hw5
        have m4 := m4.grow0 hw5
        (repeat (first | refine god ?_ | refine godC ?_))
        refine qst_pure (p_sliceL (l := i + 1) (r := xs.length - i) (c' := cap' - (i + 1)) rfl rfl rfl (by omega) (by omega) (by omega) rfl) ?_
        (repeat (first | refine god ?_ | refine godC ?_))
        refine qst_pure (p_sliceL (l := i) (r := xs.length - i) (c' := cap - i) rfl rfl rfl (by omega) (by omega) (by omega) rfl) ?_
        (repeat (first | refine god ?_ | refine godC ?_))
        refine e_copy (k := xs.length - i) (cs := (xs.drop i).flatMap encN) rfl rfl rfl m4 (Nat.min_eq_left (by omega)) lB (fun j u hu => by rw [Nat.zero_add]; exact hb'.blk.cell (drop_cell encN_len hu)) ?_ (flat_one encN_one _) fun w6 hw6 m6 => ⟨fun _ => trivial, ?_⟩
        · rw [lB]; simp [encN_len, lA]; omega
        have st := st.write hw6 m6.base m6.off
        have hx : MineB w0 H w6 g' ((xs.take i ++ x :: xs.drop i).flatMap encN ++ rest.drop (4 + (xs.length - i) * 4)) 67 := by
          have := ins_cells2 (A := (xs.take i).flatMap encN) (B := (xs.drop i).flatMap encN) (X := encN x) (R := rest) lA (encN_len x) lB hR
          rw [flat_ins, ← this]
          have h2 := m6
          rw [lB, Nat.zero_add, Nat.zero_add, encN_len, Nat.add_mul, Nat.one_mul] at h2
          exact h2
        (repeat (first | refine god ?_ | refine godC ?_))
        (repeat (first | refine go ?_ | refine goC ?_))
        refine ⟨st, ?_, ?_⟩
        · have hlt := hg'
          exact ⟨hw6.os.trans (hw5.os.trans (hw4.os.trans hw3.os)), hw6.tape.trans (hw5.tape.trans (hw4.tape.trans hw3.tape)), hw6.output.trans (hw5.output.trans (hw4.output.trans hw3.output)), Nat.le_trans hw3.size (Nat.le_trans hw4.size (Nat.le_trans hw5.size hw6.size)),
            fun k hk hne' => by
              have h3 := hw3.block k hk (by simp)
              have hs3 : k < w3.heap.size := Nat.lt_of_lt_of_le hk hw3.size
              have hkg : some k ≠ some g' := by simp; omega
              have h4 := hw4.block k hs3 hkg
              have hs4 := Nat.lt_of_lt_of_le hs3 hw4.size
              have h5 := hw5.block k hs4 (by simp)
              exact (hw6.block k (Nat.lt_of_lt_of_le hs4 hw5.size) hkg).trans (h5.trans (h4.trans h3))⟩
        · have := ME.mk' encN_len hx (by omega) hcm' (by rw [List.length_append, flat_len encN_len, lN, List.length_drop]; rw [Nat.add_mul, Nat.one_mul]; rw [Nat.sub_mul] at hR ⊢; have := Nat.mul_le_mul_right 4 hi; omega)
          rw [lN] at this
          rwa [show i + (xs.length + 1 - i) = xs.length + 1 by omega]
theorem insert32 {w0 w : World} {H0 H : Mem} {s : Value} {xs : List Sub} {x : Sub} {i gv : Nat} (st : St w0 H0 H w) (m : ME encU 7 w0 H w 37 s xs) (mv : MineB w0 H w gv (encU x) 37) (hne : s.ownBlock ≠ some gv) (hi : i ≤ xs.length) (hb : (xs.length + 1) * 80 ≤ 140737488355328) :
    MutW Try.prog 32 [s, .int .i64 i, .slice (some ⟨gv, 0, none⟩) 1 1] w0 H0 H w s.ownBlock fun r w' => ME encU 7 w0 H w' 37 r (xs.take i ++ x :: xs.drop i) := by
  have hcv : ∀ (j : Nat) u, (encU x)[j]? = some u → w.cell? ⟨gv, 0 + j, none⟩ = some u := fun j u hu => by rw [Nat.zero_add]; exact mv.blk.cell hu
  have lA : ((xs.take i).flatMap encU).length = i * 7 := by rw [flat_len encU_len, List.length_take, Nat.min_eq_left hi]
  have lB : ((xs.drop i).flatMap encU).length = (xs.length - i) * 7 := by rw [flat_len encU_len, List.length_drop]
  have lN : (xs.take i ++ x :: xs.drop i).length = xs.length + 1 := by simp; omega
  rcases Mine.cases m with ⟨rfl, hl, _⟩ | ⟨g, cap, rst, rfl, hb', hnc, hcm, hcl⟩
  · obtain rfl : xs = [] := List.eq_nil_of_length_eq_zero hl
    obtain rfl : i = 0 := by simpa using hi
    ((first | unfold Fnc | unfold FncW | unfold MutW | skip); refine enter mixed (fn := Try.f32) Try.func32 Try.ntmps32 (by kernel_rfl) (by kernel_rfl) rfl ?_)
    (repeat (first | refine go ?_ | refine goC ?_))
    refine r_pure (p_sliceNil rfl (sb_l (by omega) (by omega))) ?_
    (repeat (first | refine go ?_ | refine goC ?_))
    refine e_append st rfl rfl rfl m (news := encU x) (by simp [encU_len]) hcv (encU_one x) (by omega) (by simp [maxLen]) (by simp) fun v' w' hg' st m' => ?_
    (repeat (first | refine go ?_ | refine goC ?_))
    exact ⟨st, hg', m'⟩
  · by_cases hn : i = xs.length
    · subst hn
      ((first | unfold Fnc | unfold FncW | unfold MutW | skip); refine enter mixed (fn := Try.f32) Try.func32 Try.ntmps32 (by kernel_rfl) (by kernel_rfl) rfl ?_)
      (repeat (first | refine go ?_ | refine goC ?_))
      refine r_pure (p_slice rfl (sb_l (by omega) (by omega))) ?_
      (repeat (first | refine go ?_ | refine goC ?_))
      refine e_append st rfl rfl rfl m (news := encU x) (by simp [encU_len]) hcv (encU_one x) (by omega) (by simp only [maxLen]; omega) (by omega) fun v' w' hg' st m' => ?_
      (repeat (first | refine go ?_ | refine goC ?_))
      refine ⟨st, hg', ?_⟩
      simpa [ME, List.flatMap_append] using m'
    · have hln : i < xs.length := by omega
      by_cases hroom : xs.length + 1 ≤ cap
      · ((first | unfold Fnc | unfold FncW | unfold MutW | skip); refine enter mixed (fn := Try.f32) Try.func32 Try.ntmps32 (by kernel_rfl) (by kernel_rfl) rfl ?_)
        (repeat (first | refine go ?_ | refine goC ?_))
        refine r_pure (p_sliceL (l := i) (r := xs.length - i) (c' := cap - i) rfl rfl rfl (by omega) (by omega) (by omega) rfl) ?_
        (repeat (first | refine go ?_ | refine goC ?_))
        refine r_pure (p_sliceH (h := xs.length + 1) rfl rfl rfl (by omega)) ?_
        (repeat (first | refine go ?_ | refine goC ?_))
        refine r_pure (p_sliceL (l := i + 1) (r := xs.length - i) (c' := cap - (i + 1)) rfl rfl rfl (by omega) (by omega) (by omega) rfl) ?_
        (repeat (first | refine go ?_ | refine goC ?_))
        refine r_extern Try.func54 (by kernel_rfl) (by kernel_rfl) (by kernel_rfl) (e := Extern.SlicesOverlaps.overlaps #[24, 24] #[4]) (by kernel_rfl) rfl rfl (run_apart mv.blk hb'.blk (by simpa [Value.ownBlock] using Ne.symm (by simpa [Value.ownBlock] using hne)) (by intro h0; have := congrArg List.length h0; simp [flat_len encU_len] at this; omega)) ?_
        (repeat (first | refine go ?_ | refine goC ?_))
        have hcl' := hcl
        rw [List.length_append, flat_len encU_len] at hcl'
        refine c_draw ((.q 0 (.q 1 (.q 2 (.q 3 (.q 4 (.q 5 (.q 6 (.q 7 (.e1 8 .done)))))))))) (fun _ => True) (by kernel_rfl) (fun _ _ _ => trivial) fun w3 hw3 _ => ?_
        have st := st.grow hw3
        have hb' := hb'.grow0 hw3
        have mv := mv.grow0 hw3
        (repeat (first | refine god ?_ | refine godC ?_))
        refine qst_pure (p_sliceL (l := i + 1) (r := xs.length - i) (c' := cap - (i + 1)) rfl rfl rfl (by omega) (by omega) (by omega) rfl) ?_
        (repeat (first | refine god ?_ | refine godC ?_))
        refine qst_pure (p_sliceL (l := i) (r := xs.length + 1 - i) (c' := cap - i) rfl rfl rfl (by omega) (by omega) (by omega) rfl) ?_
        (repeat (first | refine god ?_ | refine godC ?_))
        refine e_copy (k := xs.length - i) (cs := (xs.drop i).flatMap encU) rfl rfl rfl hb' (Nat.min_eq_right (by omega)) lB (fun j u hu => by rw [Nat.zero_add]; exact hb'.blk.cell (drop_cell encU_len hu)) (by rw [lB, hcl]; omega) (flat_one encU_one _) fun w4 hw4 m4 => ⟨fun _ => trivial, ?_⟩
        have st := st.write hw4 m4.base m4.off
        have mv := mv.grow hw4 (by simpa [Value.ownBlock, eq_comm] using hne)
        (repeat (first | refine god ?_ | refine godC ?_))
        (repeat (first | refine go ?_ | refine goC ?_))
        refine r_pure (p_sliceL (l := i) (r := xs.length + 1 - i) (c' := cap - i) rfl rfl rfl (by omega) (by omega) (by omega) rfl) ?_
        (repeat (first | refine go ?_ | refine goC ?_))
        refine e_copy (k := 1) (cs := encU x) rfl rfl rfl m4 (Nat.min_eq_left (by omega)) (by rw [encU_len]) (fun j u hu => by rw [Nat.zero_add]; exact mv.blk.cell hu) ?_ (encU_one x) fun w5 hw5 m5 => ?_
        · rw [encU_len]; simp [lB, hcl]; omega
        have st := st.write hw5 m5.base m5.off
        have hx : MineB w0 H w5 g ((xs.take i ++ x :: xs.drop i).flatMap encU ++ rst.drop 7) 37 := by
          have := ins_cells (A := (xs.take i).flatMap encU) (B := (xs.drop i).flatMap encU) (X := encU x) (R := rst) lA (encU_len x) lB (by omega)
          rw [flat_ins, ← this, ← flat_part]
          have h2 := m5
          rw [lB, Nat.zero_add, Nat.zero_add, encU_len, Nat.add_mul, Nat.one_mul] at h2
          exact h2
        (repeat (first | refine go ?_ | refine goC ?_))
        refine ⟨st, ?_, ?_⟩
        · exact grownBy.trans (grownBy.trans (grownBy.any hw3 _) hw4) hw5
        · have := ME.mk' encU_len hx (by omega) hcm (by rw [List.length_append, flat_len encU_len, lN, List.length_drop]; omega)
          rwa [lN] at this
      · ((first | unfold Fnc | unfold FncW | unfold MutW | skip); refine enter mixed (fn := Try.f32) Try.func32 Try.ntmps32 (by kernel_rfl) (by kernel_rfl) rfl ?_)
        (repeat (first | refine go ?_ | refine goC ?_))
        refine r_pure (p_sliceL (l := i) (r := xs.length - i) (c' := cap - i) rfl rfl rfl (by omega) (by omega) (by omega) rfl) ?_
        (repeat (first | refine go ?_ | refine goC ?_))
        refine r_pure (p_sliceH (h := i) rfl rfl rfl (by omega)) ?_
        (repeat (first | refine go ?_ | refine goC ?_))
        have hfl : xs.flatMap encU ++ rst = (xs.take i).flatMap encU ++ ((xs.drop i).flatMap encU ++ rst) := by rw [← List.append_assoc, ← flat_part]
        refine e_appendZ (olds := (xs.take i).flatMap encU) (k := xs.length + 1 - i) st rfl rfl (by omega) rfl hb' (by rw [hfl, ← lA, List.take_left]) lA (by omega) rfl (by omega) (by simp only [maxLen]; omega) (by rw [show i + (xs.length + 1 - i) = xs.length + 1 by omega]; exact hb) fun g' w3 cap' rest hg' hw3 hc' hcm' hcl' mg => ?_
        have st := st.grow hw3
        have hgg : g ≠ g' := by have := hb'.blk.lt; omega
        have hgv : gv ≠ g' := by have := mv.blk.lt; omega
        have hb' := hb'.grow0 hw3
        have mv := mv.grow0 hw3
        have hcl2 := hcl'
        rw [List.length_append, lA] at hcl2
        have hge : (xs.length + 1) * 7 ≤ cap' * 7 := Nat.mul_le_mul_right _ (by omega)
        have hR : 7 + (xs.length - i) * 7 ≤ rest.length := by rw [Nat.sub_mul]; rw [Nat.add_mul] at hge; omega
        (repeat (first | refine go ?_ | refine goC ?_))
        refine r_pure (p_sliceL (l := i) (r := xs.length + 1 - i) (c' := cap' - i) rfl rfl rfl (by omega) (by omega) (by omega) rfl) ?_
        (repeat (first | refine go ?_ | refine goC ?_))
        refine e_copy (k := 1) (cs := encU x) rfl rfl rfl mg (Nat.min_eq_left (by omega)) (by rw [encU_len]) (fun j u hu => by rw [Nat.zero_add]; exact mv.blk.cell hu) ?_ (encU_one x) fun w4 hw4 m4 => ?_
        · rw [encU_len, hcl']; omega
        have st := st.write hw4 m4.base m4.off
        have hb' := hb'.grow hw4 (by simpa using hgg)
        (repeat (first | refine go ?_ | refine goC ?_))
        refine c_draw ((.q 0 (.q 1 (.q 2 (.q 3 (.q 4 (.q 5 (.q 6 (.q 7 (.e1 8 .done)))))))))) (fun _ => True) (by kernel_rfl) (fun _ _ _ => trivial) fun w5 hw5 _ => ?_
        have st := st.grow hw5
        have hb' := hb'.grow0 hw5
        have m4 := m4.grow0 hw5
        (repeat (first | refine god ?_ | refine godC ?_))
        refine qst_pure (p_sliceL (l := i + 1) (r := xs.length - i) (c' := cap' - (i + 1)) rfl rfl rfl (by omega) (by omega) (by omega) rfl) ?_
        (repeat (first | refine god ?_ | refine godC ?_))
        refine qst_pure (p_sliceL (l := i) (r := xs.length - i) (c' := cap - i) rfl rfl rfl (by omega) (by omega) (by omega) rfl) ?_
        (repeat (first | refine god ?_ | refine godC ?_))
        refine e_copy (k := xs.length - i) (cs := (xs.drop i).flatMap encU) rfl rfl rfl m4 (Nat.min_eq_left (by omega)) lB (fun j u hu => by rw [Nat.zero_add]; exact hb'.blk.cell (drop_cell encU_len hu)) ?_ (flat_one encU_one _) fun w6 hw6 m6 => ⟨fun _ => trivial, ?_⟩
        · rw [lB]; simp [encU_len, lA]; omega
        have st := st.write hw6 m6.base m6.off
        have hx : MineB w0 H w6 g' ((xs.take i ++ x :: xs.drop i).flatMap encU ++ rest.drop (7 + (xs.length - i) * 7)) 37 := by
          have := ins_cells2 (A := (xs.take i).flatMap encU) (B := (xs.drop i).flatMap encU) (X := encU x) (R := rest) lA (encU_len x) lB hR
          rw [flat_ins, ← this]
          have h2 := m6
          rw [lB, Nat.zero_add, Nat.zero_add, encU_len, Nat.add_mul, Nat.one_mul] at h2
          exact h2
        (repeat (first | refine god ?_ | refine godC ?_))
        (repeat (first | refine go ?_ | refine goC ?_))
        refine ⟨st, ?_, ?_⟩
        · have hlt := hg'
          exact ⟨hw6.os.trans (hw5.os.trans (hw4.os.trans hw3.os)), hw6.tape.trans (hw5.tape.trans (hw4.tape.trans hw3.tape)), hw6.output.trans (hw5.output.trans (hw4.output.trans hw3.output)), Nat.le_trans hw3.size (Nat.le_trans hw4.size (Nat.le_trans hw5.size hw6.size)),
            fun k hk hne' => by
              have h3 := hw3.block k hk (by simp)
              have hs3 : k < w3.heap.size := Nat.lt_of_lt_of_le hk hw3.size
              have hkg : some k ≠ some g' := by simp; omega
              have h4 := hw4.block k hs3 hkg
              have hs4 := Nat.lt_of_lt_of_le hs3 hw4.size
              have h5 := hw5.block k hs4 (by simp)
              exact (hw6.block k (Nat.lt_of_lt_of_le hs4 hw5.size) hkg).trans (h5.trans (h4.trans h3))⟩
        · have := ME.mk' encU_len hx (by omega) hcm' (by rw [List.length_append, flat_len encU_len, lN, List.length_drop]; rw [Nat.add_mul, Nat.one_mul]; rw [Nat.sub_mul] at hR ⊢; have := Nat.mul_le_mul_right 7 hi; omega)
          rw [lN] at this
          rwa [show i + (xs.length + 1 - i) = xs.length + 1 by omega]
end Go.Proofs.FW
