/- Lemmas on the way to a statement of this seat: rules for walks, contracts of functions, and plain facts; each is proved, under the conditions that stand in it. -/
import Derived.Test.YtpoolffoalobnaaFW5
import Derived.Laws.Tables
set_option linter.all false
namespace Go.Proofs.FW
open Go Go.RowKit
def bltB (P : Program) (t : TypeId) : Option (Array Value × List (Nat × Nat)) :=
  match P.info? t, P.underlying t with
  | some it, some (.struct fields) =>
    match it.zero, fields.toList.mapM (fun f => (P.info? f.type).map fun i => (f.offset, i.size)) with
    | some z, some places => some (z.cells, places)
    | _, _ => none
  | _, _ => none
class StT (P : Program) (t : TypeId) (z : outParam (Array Value)) (pl : outParam (List (Nat × Nat))) : Prop where
  h : bltB P t = some (z, pl)
theorem StT.out {P : Program} {t : TypeId} {z : Array Value} {pl : List (Nat × Nat)} (c : StT P t z pl) (ps : List (Nat × Value)) : P.built t ps = Instr.fill (fun i => pl.toArray[i]?) z ps := by
  have h := c.h
  unfold bltB at h
  cases h1 : P.info? t with
  | none => rw [h1] at h; cases h
  | some it =>
    cases h2 : P.underlying t with
    | none => rw [h1, h2] at h; cases h
    | some dd =>
      rw [h1, h2] at h
      cases dd <;> try (cases h; done)
      rename_i fields
      dsimp only at h
      cases h3 : it.zero with
      | none => rw [h3] at h; cases h
      | some zz =>
        cases h4 : fields.toList.mapM (fun f => (P.info? f.type).map fun i => (f.offset, i.size)) with
        | none => rw [h3, h4] at h; cases h
        | some places =>
          rw [h3, h4] at h
          simp only [Option.some.injEq, Prod.mk.injEq] at h
          obtain ⟨rfl, rfl⟩ := h
          simp only [Program.built, h1, h2, h3, h4]
section
variable {P : Program} {ops : Array Oper} {rest : List Oper} {ρ : Env} {w : World} {Q : Env → World → Prop} {d : Option Tmp} {ty : TypeId} {pos : String} {af : Array Edge} {v : Value} {x : Operand}
theorem a_loadM {t : TypeId} [c : Shp P t false 1] {b o : Nat} {cs : List Value} {e : TypeId} {w0 : World} {H : Mem} (hx : ev ρ x = .pointer (some ⟨b, o, none⟩)) (hb : MineB w0 H w b cs e) (hv : cs[o]? = some v) : At P ty (.load t x) ρ w v := a_load hx (hb.blk.cell hv)
theorem a_loadMN {t : TypeId} {b k : Nat} {cs : List Value} [c : Shp P t true k] {e : TypeId} {w0 : World} {H : Mem} (hx : ev ρ x = .pointer (some ⟨b, 0, none⟩)) (hb : MineB w0 H w b cs e) (hk : cs.length = k) : At P ty (.load t x) ρ w (.agg cs.toArray) := by
  subst hk
  exact a_loadN hx (fun j v hj => by rw [Nat.zero_add]; exact hb.blk.cell hj)
theorem p_build {t : TypeId} {z : Array Value} {pl : List (Nat × Nat)} [c : StT P t z pl] {parts : Array (Nat × Operand)} {cs : List Value} (hf : Instr.fill (fun i => pl.toArray[i]?) z (parts.toList.map fun (i, x) => (i, ev ρ x)) = some cs.toArray) : PureOp P ty (.build t parts) ρ (.agg cs.toArray) := by
  intro w
  refine lift_value ?_
  exact run_build w t _ _ ((c.out _).trans (by rw [Array.toList_map]; exact hf))
theorem fld1 {s : TypeId} {f off : Nat} {cs : Array Value} [c : Fld P s f off false 1] {y : Operand} (hx : ev ρ y = .agg cs) (hv : cs[off]? = some v) : PureOp P ty (.field s y f) ρ v := p_field1 hx hv
end
end Go.Proofs.FW
