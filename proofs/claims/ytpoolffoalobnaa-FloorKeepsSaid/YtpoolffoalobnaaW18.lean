/- Lemmas on the way to a statement of this seat: rules for walks, contracts of functions, and plain facts; each is proved, under the conditions that stand in it. -/
import Derived.Test.YtpoolffoalobnaaW17
set_option linter.all false
namespace Go.Proofs.FW
open Go Go.Proofs Go.RowKit
attribute [local irreducible] Calls opsV ost oL codeV drawV endV operV opV quietV quietO regionV PureOp At To Fnc qst shpB fldB slcB zroB
set_option maxRecDepth 100000
set_option maxHeartbeats 8000000

def subC (id n : Int) (live : Bool) : Sub := ⟨id, ⟨#[]⟩, ⟨#[]⟩, false, live, ⟨#[]⟩, n⟩
def ch3 : Chg := ⟨3, ⟨#[97]⟩, false, ⟨#[]⟩, true, ⟨#[]⟩⟩
def ch4 : Chg := ⟨4, ⟨#[97]⟩, true, ⟨#[]⟩, false, ⟨#[]⟩⟩
theorem awA : addL [] (subC 0 5 true) = ([subC 1 5 true], 1, 0) := by rfl
theorem awB : addL [subC 1 5 true] (subC 0 3 false) = ([subC 1 5 true, subC 2 3 false], 2, 0) := by rfl
theorem awC : leaveL [subC 1 5 true, subC 2 3 false] 1 = ([subC 2 3 false], 0) := by rfl
theorem awD : addL [subC 2 3 false] (subC 0 9 false) = ([subC 1 9 false, subC 2 3 false], 1, 0) := by rfl
theorem awE : findU [subC 1 9 false, subC 2 3 false] 2 = (subC 2 3 false, 0) := by rfl
theorem awF : findU [subC 1 9 false, subC 2 3 false] 3 = (subZero, 3) := by rfl
theorem awG : ofL 7 [subC 1 9 false, subC 2 3 false] = 3 := by rfl
theorem awG2 : ofL 2 [subC 1 9 false, subC 2 3 false] = 2 := by rfl
theorem awH : floorOk [subC 1 9 false, subC 2 3 false] = true := by rfl
theorem awI : [ch3, ch4].filter (fun x => !decide (x.seq ≤ 3)) = [ch4] := by rfl
theorem ok3 : ChgOk ch3 := ⟨by decide, by decide, by decide, by decide, by decide, .inr rfl, .inl rfl, .inr rfl⟩
theorem ok4 : ChgOk ch4 := ⟨by decide, by decide, by decide, by decide, by decide, .inl rfl, .inr rfl, .inl rfl⟩

theorem awake10 {H : Mem} {w : World} (hH : In H w) : FncW Try.prog 10 [] H w fun _ u _ => u = .bool true := by
  have cx := Cx.init hH
  ((first | unfold Fnc | unfold FncW | unfold MutW | skip); refine enter mixed (fn := Try.f10) Try.func10 Try.ntmps10 (by kernel_rfl) (by kernel_rfl) rfl ?_)
  (repeat (first | refine go ?_ | refine goC ?_))
  refine r_callC Try.func12 rfl rfl rfl rfl (by assumption) (add12 (xs := []) (s := subC 0 5 true) cx.st.mem (RE.nil _ _ _) (by simp)) ?_; clear cx; intro v w H1 hR st1 cx; simp only [awA] at hR; obtain ⟨l1, rfl, r1⟩ := hR
  (repeat (first | refine go ?_ | refine goC ?_))
  refine r_callC Try.func12 rfl rfl rfl rfl (by assumption) (add12 (v := l1) (s := subC 0 3 false) cx.st.mem r1 (by simp)) ?_; clear cx; intro v w H1 hR st1 cx; simp only [awB] at hR; obtain ⟨l2, rfl, r2⟩ := hR
  (repeat (first | refine go ?_ | refine goC ?_))
  refine r_callC Try.func11 rfl rfl rfl rfl (by assumption) (leave11 (v := l2) (id := 1) cx.st.mem r2 (by simp)) ?_; clear cx; intro v w H1 hR st1 cx; simp only [awC] at hR; obtain ⟨l3, rfl, r3⟩ := hR
  (repeat (first | refine go ?_ | refine goC ?_))
  refine r_callC Try.func12 rfl rfl rfl rfl (by assumption) (add12 (v := l3) (s := subC 0 9 false) cx.st.mem r3 (by simp)) ?_; clear cx; intro v w H1 hR st1 cx; simp only [awD] at hR; obtain ⟨l4, rfl, r4⟩ := hR
  (repeat (first | refine go ?_ | refine goC ?_))
  refine r_callC Try.func13 rfl rfl rfl rfl (by assumption) (find13 (v := l4) (id := 2) cx.st.mem r4 (by simp)) ?_; clear cx; intro v w H1 hR st1 cx; simp only [awE] at hR; obtain ⟨rfl, rfl⟩ := hR
  (repeat (first | refine go ?_ | refine goC ?_))
  refine e_allocC (cs := encU subZero) (by assumption) rfl ?_; clear cx; intro g1 w cx
  (repeat (first | refine go ?_ | refine goC ?_))
  refine e_storeC (vs := encU (subC 2 3 false)) (by assumption) rfl rfl (encU_one _) rfl ?_; clear cx; intro w cx
  (repeat (first | refine go ?_ | refine goC ?_))
  refine r_callC Try.func13 rfl rfl rfl rfl (by assumption) (find13 (v := l4) (id := 3) cx.st.mem r4 (by simp)) ?_; clear cx; intro v w H1 hR st1 cx; simp only [awF] at hR; obtain ⟨rfl, rfl⟩ := hR
  (repeat (first | refine go ?_ | refine goC ?_))
  refine e_allocC (cs := encU subZero) (by assumption) rfl ?_; clear cx; intro g2 w cx
  (repeat (first | refine go ?_ | refine goC ?_))
  refine e_storeC (vs := encU subZero) (by assumption) rfl rfl (encU_one _) rfl ?_; clear cx; intro w cx
  (iterate 5 refine go ?_)
  refine oL_cons ?_
  refine r_pure (p_build (cs := encC ch3) rfl) ?_
  refine oL_cons ?_
  refine r_pure (p_build (cs := encC ch4) rfl) ?_
  refine oL_cons ?_
  refine e_buildC2 (c1 := encC ch3) (c2 := encC ch4) cx rfl rfl rfl rfl rfl rfl rfl fun g3 w cx => ?_
  obtain ⟨cx, hle⟩ := cx.pubG g3
  have hre : RE encC 6 (H1.pub g3 (encC ch3 ++ encC ch4)) (.slice (some ⟨g3, 0, none⟩) 2 2) [ch3, ch4] := re_pub (H := H1) (g := g3) (xs := [ch3, ch4]) encC_len encC_one rfl
  have r4 := r4.mono hle
  generalize H1.pub g3 (encC ch3 ++ encC ch4) = H2 at cx hre r4
  (repeat (first | refine go ?_ | refine goC ?_))
  refine r_callC Try.func27 rfl rfl rfl rfl (by assumption) (trim27 cx.st.mem hre r4 (by simp) (by simp) (by simp [ok3, ok4]) (by intro j x y hx hy; have : j = 0 := by { have := (List.getElem?_eq_some_iff.1 hy).1; simp at this; omega }; subst this; cases hx; cases hy; decide)) ?_; clear cx; intro v w H1 hR st1 cx; simp only [awG, awI] at hR; obtain ⟨r, rfl, hr⟩ := hR
  have r4 := r4.mono st1.le
  obtain ⟨ar, capr, rfl, _⟩ := hr.shape
  (repeat (first | refine go ?_ | refine goC ?_))
  refine r_callC Try.func15 rfl rfl rfl rfl (by assumption) (of15 cx.st.mem r4 (by simp)) ?_; clear cx; intro v w H1 hR st1 cx; simp only [awG2] at hR; obtain ⟨rfl, rfl⟩ := hR
  (repeat (first | refine go ?_ | refine goC ?_))
  refine r_callC Try.func14 rfl rfl rfl rfl (by assumption) (right14 cx.st.mem r4 (by simp)) ?_; clear cx; intro v w H1 hR st1 cx; simp only [awH] at hR; obtain ⟨rfl, rfl⟩ := hR
  (repeat (first | refine go ?_ | refine goC ?_))
  exact ⟨_, cx.st, rfl⟩
end Go.Proofs.FW
