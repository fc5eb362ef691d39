/- Lemmas on the way to a statement of this seat: rules for walks, contracts of functions, and plain facts; each is proved, under the conditions that stand in it. -/
import Derived.Test.YtpoolffoalobnaaFW18
set_option linter.all false
namespace Go.Proofs.FW
open Go Go.RowKit
attribute [local irreducible] Calls opsV ost oL codeV drawV endV operV opV quietV quietO regionV PureOp At To Fnc qst shpB fldB slcB zroB
section
variable {P : Program} {ρ : Env} {w : World} {ty : TypeId} {v : Value} {w0 : World} {H0 H : Mem} {L : List Res}
theorem a_loadC' {t : TypeId} [c : Shp P t false 1] {x : Operand} {b o : Nat} {cs : List Value} {e : TypeId} (cx : Cx w0 H0 H w L) (hx : ev ρ x = .pointer (some ⟨b, o, none⟩)) (gb : GetB L b cs e) (hv : cs[o]? = some v) : At P ty (.load t x) ρ w v := a_loadC cx hx hv
theorem a_loadD' {t : TypeId} [c : Shp P t false 1] {x : Operand} {b o : Nat} {cs : List Value} {e : TypeId} (cx : CxS w0 H0 H L w) (hx : ev ρ x = .pointer (some ⟨b, o, none⟩)) (gb : GetB L b cs e) (hv : cs[o]? = some v) : At P ty (.load t x) ρ w v := a_loadD cx hx hv
/-- A struct that lies in a struct. -/
theorem a_loadCP {t : TypeId} {x : Operand} {b o k : Nat} {cs vs : List Value} [c : Shp P t true k] {e : TypeId} [gb : GetB L b cs e] (cx : Cx w0 H0 H w L) (hx : ev ρ x = .pointer (some ⟨b, o, none⟩)) (hv : (cs.drop o).take k = vs) (hk : vs.length = k) : At P ty (.load t x) ρ w (.agg vs.toArray) := a_loadMP hx (cx.getB gb) hv hk
end
/-- One step of a walk, that looks at what is one's own, or at memory. -/
theorem goC {A B : Prop} (h : B) (hs : B → A := by (
  intro h; first
    | (show ost _ (.load _ _) _ _ _ _ _; first
        | exact r_at (a_loadC' (by assumption) rfl (by infer_instance) (by conv => lhs; whnf)) h
        | exact r_at (a_loadCN (by assumption) rfl rfl) h
        | exact r_at (a_loadCH (by assumption) rfl (by assumption)) h
        | exact r_at (a_loadCH0 (by assumption) rfl (by assumption)) h
        | exact r_at (a_loadCE (by assumption) (by assumption) rfl) h
        | exact r_at (a_loadCE0 (by assumption) (by assumption) rfl) h))) : A := hs h
/-- The same in a region that draws its order. -/
theorem godC {A B : Prop} (h : B) (hs : B → A := by (
  intro h; first
    | (show qst _ _ _ (.load _ _) _ _; first
        | exact qst_at (fun w' hS => a_loadD' hS rfl (by infer_instance) (by conv => lhs; whnf)) (show drawV _ _ _ _ _ _ _ from h)
        | exact qst_at (fun w' hS => a_loadDN hS rfl rfl) (show drawV _ _ _ _ _ _ _ from h)
        | exact qst_at (fun w' hS => a_loadDH hS rfl (by assumption)) (show drawV _ _ _ _ _ _ _ from h)
        | exact qst_at (fun w' hS => a_loadDH0 hS rfl (by assumption)) (show drawV _ _ _ _ _ _ _ from h)
        | exact qst_at (fun w' hS => a_loadDE hS (by assumption) rfl) (show drawV _ _ _ _ _ _ _ from h)
        | exact qst_at (fun w' hS => a_loadDE0 hS (by assumption) rfl) (show drawV _ _ _ _ _ _ _ from h)))) : A := hs h
section
variable {w0 w : World} {H0 H : Mem} {L L' : List Res}
theorem Cx.pubG (g : Nat) {cs : List Value} {e : TypeId} [gb : GetB L g cs e] [d : Del L (.b g cs e) L'] (c : Cx w0 H0 H w L) : Cx w0 H0 (H.pub g cs) w L' ∧ H.le (H.pub g cs) := c.pubB d
theorem Cx.pubV (v : Value) {e : TypeId} {sz n : Nat} {cs : List Value} [gs : GetS L v e sz n cs] [d : Del L (.s v e sz n cs) L'] (c : Cx w0 H0 H w L) (h1 : ∀ c ∈ cs, c.oneCell' = true) : ∃ H', Cx w0 H0 H' w L' ∧ H.le H' ∧ RFl sz H' v n cs := c.pubS d h1
end
end Go.Proofs.FW
