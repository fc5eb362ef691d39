/- A statement of this seat is proved, for every input, with no condition beyond the statement's own. -/
import Derived.Test.YtpoolffoalobnaaW19
import Derived.Test.YtpoolffoalobnaaReads
import Derived.Test.YtpoolffoalobnaaRows
import Derived.WalkKit
import Derived.ProofKit
import Derived.OpenShut
import Derived.ShutString
import Derived.ChangeOld
import Derived.Below
import Derived.SizedLaws
set_option linter.all false
namespace Go.Proofs.Ytpoolffoalobnaa.floorKeeps
open Go.ChangeShapes Go.WideShapes Go.ChangeAt Go.RowKit Go.Proofs.FW
open Go.ChangeMaps (open_string shut_string)
theorem own : ownKnob Try.prog.godebug = none := by kernel_rfl
theorem laidOut : laidOutB Try.prog = true := by kernel_rfl
theorem elem {H : Type} {enc : TypeId × Value → H} {w : World} {base : Nat} {sp : Nat → Bool} {held : Bool} (n : Nat) (cs : List Value) (y : DataW H × List MemPlace) (h : DataW.trod enc Try.prog w base sp held n 27 cs = some y) : ∃ u, cs = encA u ∧ True := by
  obtain ⟨hl, hf⟩ := trod_fields Try.underlying27 h
  obtain ⟨a, b, rfl⟩ := list2 (hl.trans (by kernel_rfl))
  obtain ⟨m0, y0, h0⟩ := hf 0 _ rfl rfl (by kernel_rfl) a rfl
  obtain ⟨m1, y1, h1⟩ := hf 1 _ rfl rfl (by kernel_rfl) b rfl
  obtain ⟨p, hp, _⟩ := DataW.trod_bool Try.underlying4 h0
  obtain ⟨q, hq, _, _⟩ := DataW.trod_int Try.underlying3 h1
  cases hp
  cases hq
  exact ⟨(p, q), rfl, trivial⟩
set_option maxRecDepth 100000 in
theorem lifted (os : Os) (started : os.Started) (H : Type) (enc : TypeId × Value → H) :
    ReturnsInHanded {} Try.checked os 3 .any (Rows.floorKeepsSpec.pre6 enc Try.prog Try.f3 Rows.floorKeepsRow.domain false) (Rows.floorKeepsSpec.post enc Try.prog Try.f3 false true false false) := by
  refine returnsInHanded_of_change_sized (C := Try.checked) own started (by kernel_rfl) Try.func3
    (ChangeSpec.witness6 (enc := enc) (C := Try.checked) false ⟨#[], #[.slice none 0 0], []⟩ 8 (by kernel_rfl) (by kernel_rfl) (by kernel_rfl) (by kernel_rfl)) ?_
  intro W base args ds gs before hval0 hW hcnd hsz0 _
  have hval : ∀ (j : Nat) t v, Try.f3.params[j]? = some t → args[j]? = some v → Value.okWide Try.prog W .any base t v := hval0
  have hW' := hW
  obtain ⟨p, q, hA0, hV, rfl, hfz, hnd⟩ := hW
  have hA : DataW.TrodAll enc Try.prog W 0 (fun _ => true) true Try.f3.params.toList args.toList ds p := hA0
  rw [Try.params3] at hA hval
  obtain ⟨v0, vs0, d0, ds0, p0, q0, hargs, rfl, rfl, h0, r0⟩ := trodAll_cons hA
  obtain ⟨rfl, rfl, rfl⟩ := trodAll_nil r0
  obtain rfl : args = #[v0] := by cases args; simp_all
  obtain ⟨rfl, rfl⟩ := trodVars_none hV
  obtain ⟨hv0, hs0⟩ := okWide_spot Try.underlying22 (hval 0 22 v0 rfl rfl)
  have lt0 : ∀ x ∈ p0, x.block < W.heap.size := by obtain ⟨m, hm⟩ := h0; exact DataW.trod_lt m _ _ _ hm
  obtain ⟨xs, hr, hl, _⟩ := re_of_trod (enc' := encA) (sz := 2) (good := fun _ => True) Try.underlying22 (by kernel_rfl) (by omega) encA_len encA_one elem hv0 hs0 h0
  clear hA0 hval0 hsz0
  refine (law3 (in_memOf W) hr hl).mono fun e W' ⟨v, he, H', st, hv⟩ => ?_
  subst he hv
  have bel := st.below
  exact ⟨_, rfl, _, _, _, [], _, [], hW', trodAll_mk1 (shut_bool Try.underlying4 _), (trodAll_cons_mk (Below.trod laidOut (by kernel_rfl) (of_decide_eq_true (by kernel_rfl)) h0 bel lt0) trodAll_mk0), rfl, bel.frame _, fun h => by cases h⟩
theorem over : Rows.floorKeepsRow.holds Try.pinned (OpenSpec.ofChange Rows.floorKeepsSpec) :=
  OpenClaim.holds_of_wide 3 Try.f3 rfl rfl rfl rfl rfl rfl rfl ⟨rfl, rfl, rfl, rfl, rfl⟩ rfl rfl rfl rfl rfl (by kernel_rfl) Try.func3 (by kernel_rfl)
    (of_decide_eq_true (by kernel_rfl)) (by unfold Func.isWrapper; first | (rw [if_pos (by decide +kernel)]; kernel_rfl) | (rw [if_neg (by decide +kernel)]; exact ⟨rfl, rfl⟩))
    (fun os started H enc _ => lifted os started H enc)
theorem proved : Rows.FloorKeepsSaid := over
#print axioms proved
end Go.Proofs.Ytpoolffoalobnaa.floorKeeps
namespace Go.Proofs.Ytpoolffoalobnaa
/-- The row, under a short name, for the claim. -/
theorem floorKeeps_holds : Rows.FloorKeepsSaid := floorKeeps.proved
end Go.Proofs.Ytpoolffoalobnaa
