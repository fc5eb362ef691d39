/- Lemmas on the way to a statement of this seat: rules for walks, contracts of functions, and plain facts; each is proved, under the conditions that stand in it. -/
import Derived.Test.YtpoolffoalobnaaP1
set_option linter.all false
namespace Go.Proofs.FW
open Go Go.RowKit
/-- A quiet operation, looked up. -/
def qst (P : Program) (S : World → Prop) (ty : TypeId) (o : Op) (ρ : Env) (K : Value → Prop) : Prop := ∃ v, (∀ w, S w → At P ty o ρ w v) ∧ K v
section
variable {P : Program} {S : World → Prop} {ty : TypeId} {o : Op} {ρ : Env} {v : Value} {K : Value → Prop} {ops : Array Oper} {Q : Env → World → Prop} {w : World} {d : Option Tmp} {pos : String} {af : Array Edge} {i : Nat} {p : Plan}
theorem qst_pure (hp : PureOp P ty o ρ v) (h : K v) : qst P S ty o ρ K := ⟨v, fun w _ => hp w, h⟩
theorem qst_at (hp : ∀ w, S w → At P ty o ρ w v) (h : K v) : qst P S ty o ρ K := ⟨v, hp, h⟩
theorem d_open (hn : nth ops.toList i = some ⟨d, o, ty, pos, af, none⟩) (h : qst P S ty o ρ fun v => drawV P ops S Q p (put ρ d v) w) : drawV P ops S Q (.q i p) ρ w := by
  obtain ⟨v, h1, h2⟩ := h
  exact d_q hn h1 h2
theorem d_openY {j : Nat} {b : Bool} (hn : nth ops.toList i = some ⟨d, o, ty, pos, af, some (j, b)⟩) (hy : yv ops ρ j = some b) (h : qst P S ty o ρ fun v => drawV P ops S Q p (put ρ d v) w) : drawV P ops S Q (.q i p) ρ w := by
  obtain ⟨v, h1, h2⟩ := h
  exact d_qyes hn hy h1 h2
end
attribute [local irreducible] Calls opsV ost oL codeV drawV endV operV opV quietV quietO regionV PureOp At To Fnc qst shpB fldB slcB zroB
/-- One step of a walk. -/
theorem go {A B : Prop} (h : B) (hs : B → A := by (
  intro h; first
    | (show oL _ [] _ _ _ _; exact oL_nil (show codeV _ _ _ _ _ from h))
    | (show oL _ (_ :: _) _ _ _ _; first | exact oL_cons h | exact g_yes rfl rfl rfl h | exact g_no rfl rfl rfl rfl h | exact g_nil rfl rfl rfl h)
    | (show codeV _ (.seq _ _) _ _ _; exact c_seq h)
    | (show codeV _ (.region _ _ false) _ _ _; exact c_region h)
    | (show codeV _ (.block _ _) _ _ _; exact c_block h)
    | (show codeV _ (.cond _ _ _) _ _ _; first | exact c_yes rfl rfl h | exact c_no rfl rfl h)
    | (show codeV _ .ret _ _ _; exact c_ret (show endV _ _ _ _ _ _ from h))
    | (show codeV _ (.exit _) _ _ _; exact c_exit (show codeV _ _ _ _ _ from h))
    | (show codeV _ .skip _ _ _; exact c_skip (show codeV _ _ _ _ _ from h))
    | (show endV _ _ _ _ _ _; first | exact e_end1 rfl (by conv => lhs; whnf) h | exact e_end2 rfl (by conv => lhs; whnf) (by conv => lhs; whnf) h | exact e_end3 rfl (by conv => lhs; whnf) (by conv => lhs; whnf) (by conv => lhs; whnf) h | exact e_end0 rfl h)
    | (show ost _ (.move _) _ _ _ _ _; exact r_pure (p_move (by conv => lhs; whnf)) h)
    | (show ost _ (.assign _) _ _ _ _ _; exact r_pure (p_assign (by conv => lhs; whnf)) h)
    | (show ost _ (.fieldAddr _ _ _) _ _ _ _ _; exact r_pure (p_fieldAddr rfl) h)
    | (show ost _ (.load _ _) _ _ _ _ _; first | exact r_at (a_loadM rfl (by assumption) (by conv => lhs; whnf)) h | exact r_at (a_loadS rfl (by assumption) (by assumption)) h | exact r_at (a_loadMN rfl (by assumption) (by rfl)) h)
    | (show ost _ (.extract _ _) _ _ _ _ _; exact r_pure (p_extract rfl (by conv => lhs; whnf)) h)
    | (show ost _ (.nilCheck _) _ _ _ _ _; exact r_pure (p_nilCheck rfl) h)
    | (show ost _ (.field _ _ _) _ _ _ _ _; exact r_pure (p_field1 rfl (by conv => lhs; whnf)) h)
    | (show ost _ (.call { callee := .builtin .len, args := _, argTypes := _ }) _ _ _ _ _; first | exact r_pure (p_len rfl rfl) h | exact r_pure (p_lenS rfl rfl) h)
    | (show ost _ (.indexAddr _ _ _) _ _ _ _ _; exact r_pure (p_indexAddr rfl rfl (by omega) (by omega)) h)
    | (show ost _ (.binOp .lss _ _ _ _) _ _ _ _ _; first | exact r_pure (p_ltT rfl rfl (by omega)) h | exact r_pure (p_ltF rfl rfl (by omega)) h | exact r_pure (p_lt rfl rfl) h | exact r_pure (p_strltK rfl rfl (by assumption)) h | exact r_pure (p_strlt rfl rfl) h)
    | (show ost _ (.binOp .gtr _ _ _ _) _ _ _ _ _; first | exact r_pure (p_gtT rfl rfl (by omega)) h | exact r_pure (p_gtF rfl rfl (by omega)) h | exact r_pure (p_gt rfl rfl) h | exact r_pure (p_strgt rfl rfl) h)
    | (show ost _ (.binOp .eql _ _ _ _) _ _ _ _ _; first | exact r_pure (p_eqT rfl rfl (by omega)) h | exact r_pure (p_eqF rfl rfl (by omega)) h | exact r_pure (p_eq rfl rfl) h | exact r_pure (p_streqT rfl rfl (by assumption)) h | exact r_pure (p_streqF rfl rfl (by assumption)) h | exact r_pure (p_streq rfl rfl) h | exact r_pure (p_eqnil rfl rfl) h | exact r_pure (p_ptreqnil rfl rfl) h | exact r_pure (p_booleq rfl rfl) h)
    | (show ost _ (.binOp .add _ _ _ _) _ _ _ _ _; first | exact r_pure (p_add64 rfl rfl (by omega)) h | exact r_pure (p_stradd rfl rfl (by omega)) h)
    | (show ost _ (.binOp .sub _ _ _ _) _ _ _ _ _; exact r_pure (p_sub64 rfl rfl (by omega)) h)
    | (show ost _ (.binOp .mul _ _ _ _) _ _ _ _ _; exact r_pure (p_mul64 rfl rfl (by omega)) h)
    | (show ost _ (.unOp .not _ _) _ _ _ _ _; first | exact r_pure (p_notd rfl) h | exact r_pure (p_not rfl) h)
    | (show ost _ (.pick _ _ _) _ _ _ _ _; exact r_pure (p_pick rfl (by conv => lhs; whnf)) h)
    | (show ost _ (.binOp .geq _ _ _ _) _ _ _ _ _; first | exact r_pure (p_geT rfl rfl (by omega)) h | exact r_pure (p_geF rfl rfl (by omega)) h | exact r_pure (p_ge rfl rfl) h | exact r_pure (p_strgeT rfl rfl (by assumption)) h | exact r_pure (p_strgeF rfl rfl (by assumption)) h | exact r_pure (p_strge rfl rfl) h)
    | (show ost _ (.binOp .leq _ _ _ _) _ _ _ _ _; first | exact r_pure (p_leT rfl rfl (by omega)) h | exact r_pure (p_leF rfl rfl (by omega)) h | exact r_pure (p_le rfl rfl) h | exact r_pure (p_strle rfl rfl) h)
    | (show ost _ (.binOp .neq _ _ _ _) _ _ _ _ _; first | exact r_pure (p_neT rfl rfl (by omega)) h | exact r_pure (p_neF rfl rfl (by omega)) h | exact r_pure (p_ne rfl rfl) h | exact r_pure (p_strneT rfl rfl (by assumption)) h | exact r_pure (p_strneF rfl rfl (by assumption)) h | exact r_pure (p_strne rfl rfl) h | exact r_pure (p_boolne rfl rfl) h)
    | (show ost _ (.build _ _) _ _ _ _ _; first | exact r_pure (p_build (cs := [_]) rfl) h | exact r_pure (p_build (cs := [_, _]) rfl) h | exact r_pure (p_build (cs := [_, _, _, _]) rfl) h | exact r_pure (p_build (cs := [_, _, _, _, _]) rfl) h | exact r_pure (p_build (cs := [_, _, _, _, _, _]) rfl) h | exact r_pure (p_build (cs := [_, _, _, _, _, _, _]) rfl) h | exact r_pure (p_build (cs := [_, _, _]) rfl) h)
    | (show ost _ (.makeFunc _ _ _) _ _ _ _ _; exact r_pure (p_makeFunc rfl rfl) h)
    | (show ost _ (.call { callee := .builtin .cap, args := _, argTypes := _ }) _ _ _ _ _; exact r_pure (p_cap rfl rfl) h)
    | (show ost _ (.call { callee := .builtin .min, args := _, argTypes := _ }) _ _ _ _ _; exact r_pure (p_min rfl rfl) h)
    | (show ost _ (.call { callee := .builtin .max, args := _, argTypes := _ }) _ _ _ _ _; exact r_pure (p_max rfl rfl) h)
    | (show ost _ (.binOp .quo _ _ _ _) _ _ _ _ _; exact r_pure (p_quo64 rfl rfl (by omega) (by omega) (by omega)) h)
    | (show ost _ (.binOp .shr _ _ _ _) _ _ _ _ _; exact r_pure (p_shr1 rfl rfl) h)
    | (show ost _ (.convert _ _ _) _ _ _ _ _; first | exact r_pure (p_convU rfl (by omega)) h | exact r_pure (p_convI rfl (by omega)) h))) : A := hs h
/-- One step of a walk through a region that draws its order. -/
theorem god {A B : Prop} (h : B) (hs : B → A := by (
  intro h; first
    | (show drawV _ _ _ _ .done _ _; exact d_done (show codeV _ _ _ _ _ from h))
    | (show drawV _ _ _ _ (.q _ _) _ _; first | exact d_open rfl h | exact d_openY rfl (yv_of rfl rfl rfl) h | exact d_qno rfl (yv_of rfl rfl rfl) rfl h | exact d_qnil rfl (yv_nil rfl rfl rfl) h)
    | (show drawV _ _ _ _ (.e1 _ _) _ _; first | exact d_open1 rfl h | exact d_open1Y rfl (yv_of rfl rfl rfl) h)
    | (show qst _ _ _ (.move _) _ _; exact qst_pure (p_move (by conv => lhs; whnf)) (show drawV _ _ _ _ _ _ _ from h))
    | (show qst _ _ _ (.assign _) _ _; exact qst_pure (p_assign (by conv => lhs; whnf)) (show drawV _ _ _ _ _ _ _ from h))
    | (show qst _ _ _ (.fieldAddr _ _ _) _ _; exact qst_pure (p_fieldAddr rfl) (show drawV _ _ _ _ _ _ _ from h))
    | (show qst _ _ _ (.load _ _) _ _; first | exact qst_at (fun w' hS => a_loadB rfl hS.2 (by conv => lhs; whnf)) (show drawV _ _ _ _ _ _ _ from h) | exact qst_at (fun w' hS => a_loadB rfl hS.2.1 (by conv => lhs; whnf)) (show drawV _ _ _ _ _ _ _ from h) | exact qst_at (fun w' hS => a_loadB rfl hS.2.2 (by conv => lhs; whnf)) (show drawV _ _ _ _ _ _ _ from h) | exact qst_at (fun w' hS => a_loadBN rfl hS.2) (show drawV _ _ _ _ _ _ _ from h) | exact qst_at (fun w' hS => a_loadBN rfl hS.2.1) (show drawV _ _ _ _ _ _ _ from h) | exact qst_at (fun w' hS => a_loadBN rfl hS.2.2) (show drawV _ _ _ _ _ _ _ from h) | exact qst_at (fun w' hS => a_loadH rfl hS.1 (by assumption)) (show drawV _ _ _ _ _ _ _ from h) | exact qst_at (fun w' hS => a_loadH rfl hS (by assumption)) (show drawV _ _ _ _ _ _ _ from h))
    | (show qst _ _ _ (.extract _ _) _ _; exact qst_pure (p_extract rfl (by conv => lhs; whnf)) (show drawV _ _ _ _ _ _ _ from h))
    | (show qst _ _ _ (.nilCheck _) _ _; exact qst_pure (p_nilCheck rfl) (show drawV _ _ _ _ _ _ _ from h))
    | (show qst _ _ _ (.field _ _ _) _ _; exact qst_pure (p_field1 rfl (by conv => lhs; whnf)) (show drawV _ _ _ _ _ _ _ from h))
    | (show qst _ _ _ (.call { callee := .builtin .len, args := _, argTypes := _ }) _ _; first | exact qst_pure (p_len rfl rfl) (show drawV _ _ _ _ _ _ _ from h) | exact qst_pure (p_lenS rfl rfl) (show drawV _ _ _ _ _ _ _ from h))
    | (show qst _ _ _ (.indexAddr _ _ _) _ _; exact qst_pure (p_indexAddr rfl rfl (by omega) (by omega)) (show drawV _ _ _ _ _ _ _ from h))
    | (show qst _ _ _ (.binOp .lss _ _ _ _) _ _; first | exact qst_pure (p_ltT rfl rfl (by omega)) (show drawV _ _ _ _ _ _ _ from h) | exact qst_pure (p_ltF rfl rfl (by omega)) (show drawV _ _ _ _ _ _ _ from h) | exact qst_pure (p_lt rfl rfl) (show drawV _ _ _ _ _ _ _ from h) | exact qst_pure (p_strltK rfl rfl (by assumption)) (show drawV _ _ _ _ _ _ _ from h) | exact qst_pure (p_strlt rfl rfl) (show drawV _ _ _ _ _ _ _ from h))
    | (show qst _ _ _ (.binOp .gtr _ _ _ _) _ _; first | exact qst_pure (p_gtT rfl rfl (by omega)) (show drawV _ _ _ _ _ _ _ from h) | exact qst_pure (p_gtF rfl rfl (by omega)) (show drawV _ _ _ _ _ _ _ from h) | exact qst_pure (p_gt rfl rfl) (show drawV _ _ _ _ _ _ _ from h) | exact qst_pure (p_strgt rfl rfl) (show drawV _ _ _ _ _ _ _ from h))
    | (show qst _ _ _ (.binOp .eql _ _ _ _) _ _; first | exact qst_pure (p_eqT rfl rfl (by omega)) (show drawV _ _ _ _ _ _ _ from h) | exact qst_pure (p_eqF rfl rfl (by omega)) (show drawV _ _ _ _ _ _ _ from h) | exact qst_pure (p_eq rfl rfl) (show drawV _ _ _ _ _ _ _ from h) | exact qst_pure (p_streqT rfl rfl (by assumption)) (show drawV _ _ _ _ _ _ _ from h) | exact qst_pure (p_streqF rfl rfl (by assumption)) (show drawV _ _ _ _ _ _ _ from h) | exact qst_pure (p_streq rfl rfl) (show drawV _ _ _ _ _ _ _ from h) | exact qst_pure (p_eqnil rfl rfl) (show drawV _ _ _ _ _ _ _ from h) | exact qst_pure (p_ptreqnil rfl rfl) (show drawV _ _ _ _ _ _ _ from h) | exact qst_pure (p_booleq rfl rfl) (show drawV _ _ _ _ _ _ _ from h))
    | (show qst _ _ _ (.binOp .add _ _ _ _) _ _; first | exact qst_pure (p_add64 rfl rfl (by omega)) (show drawV _ _ _ _ _ _ _ from h) | exact qst_pure (p_stradd rfl rfl (by omega)) (show drawV _ _ _ _ _ _ _ from h))
    | (show qst _ _ _ (.binOp .sub _ _ _ _) _ _; exact qst_pure (p_sub64 rfl rfl (by omega)) (show drawV _ _ _ _ _ _ _ from h))
    | (show qst _ _ _ (.binOp .mul _ _ _ _) _ _; exact qst_pure (p_mul64 rfl rfl (by omega)) (show drawV _ _ _ _ _ _ _ from h))
    | (show qst _ _ _ (.unOp .not _ _) _ _; first | exact qst_pure (p_notd rfl) (show drawV _ _ _ _ _ _ _ from h) | exact qst_pure (p_not rfl) (show drawV _ _ _ _ _ _ _ from h))
    | (show qst _ _ _ (.pick _ _ _) _ _; exact qst_pure (p_pick rfl (by conv => lhs; whnf)) (show drawV _ _ _ _ _ _ _ from h))
    | (show qst _ _ _ (.binOp .geq _ _ _ _) _ _; first | exact qst_pure (p_geT rfl rfl (by omega)) (show drawV _ _ _ _ _ _ _ from h) | exact qst_pure (p_geF rfl rfl (by omega)) (show drawV _ _ _ _ _ _ _ from h) | exact qst_pure (p_ge rfl rfl) (show drawV _ _ _ _ _ _ _ from h) | exact qst_pure (p_strgeT rfl rfl (by assumption)) (show drawV _ _ _ _ _ _ _ from h) | exact qst_pure (p_strgeF rfl rfl (by assumption)) (show drawV _ _ _ _ _ _ _ from h) | exact qst_pure (p_strge rfl rfl) (show drawV _ _ _ _ _ _ _ from h))
    | (show qst _ _ _ (.binOp .leq _ _ _ _) _ _; first | exact qst_pure (p_leT rfl rfl (by omega)) (show drawV _ _ _ _ _ _ _ from h) | exact qst_pure (p_leF rfl rfl (by omega)) (show drawV _ _ _ _ _ _ _ from h) | exact qst_pure (p_le rfl rfl) (show drawV _ _ _ _ _ _ _ from h) | exact qst_pure (p_strle rfl rfl) (show drawV _ _ _ _ _ _ _ from h))
    | (show qst _ _ _ (.binOp .neq _ _ _ _) _ _; first | exact qst_pure (p_neT rfl rfl (by omega)) (show drawV _ _ _ _ _ _ _ from h) | exact qst_pure (p_neF rfl rfl (by omega)) (show drawV _ _ _ _ _ _ _ from h) | exact qst_pure (p_ne rfl rfl) (show drawV _ _ _ _ _ _ _ from h) | exact qst_pure (p_strneT rfl rfl (by assumption)) (show drawV _ _ _ _ _ _ _ from h) | exact qst_pure (p_strneF rfl rfl (by assumption)) (show drawV _ _ _ _ _ _ _ from h) | exact qst_pure (p_strne rfl rfl) (show drawV _ _ _ _ _ _ _ from h) | exact qst_pure (p_boolne rfl rfl) (show drawV _ _ _ _ _ _ _ from h))
    | (show qst _ _ _ (.build _ _) _ _; first | exact qst_pure (p_build (cs := [_]) rfl) (show drawV _ _ _ _ _ _ _ from h) | exact qst_pure (p_build (cs := [_, _]) rfl) (show drawV _ _ _ _ _ _ _ from h) | exact qst_pure (p_build (cs := [_, _, _, _]) rfl) (show drawV _ _ _ _ _ _ _ from h) | exact qst_pure (p_build (cs := [_, _, _, _, _]) rfl) (show drawV _ _ _ _ _ _ _ from h) | exact qst_pure (p_build (cs := [_, _, _, _, _, _]) rfl) (show drawV _ _ _ _ _ _ _ from h) | exact qst_pure (p_build (cs := [_, _, _, _, _, _, _]) rfl) (show drawV _ _ _ _ _ _ _ from h) | exact qst_pure (p_build (cs := [_, _, _]) rfl) (show drawV _ _ _ _ _ _ _ from h))
    | (show qst _ _ _ (.makeFunc _ _ _) _ _; exact qst_pure (p_makeFunc rfl rfl) (show drawV _ _ _ _ _ _ _ from h))
    | (show qst _ _ _ (.call { callee := .builtin .cap, args := _, argTypes := _ }) _ _; exact qst_pure (p_cap rfl rfl) (show drawV _ _ _ _ _ _ _ from h))
    | (show qst _ _ _ (.call { callee := .builtin .min, args := _, argTypes := _ }) _ _; exact qst_pure (p_min rfl rfl) (show drawV _ _ _ _ _ _ _ from h))
    | (show qst _ _ _ (.call { callee := .builtin .max, args := _, argTypes := _ }) _ _; exact qst_pure (p_max rfl rfl) (show drawV _ _ _ _ _ _ _ from h))
    | (show qst _ _ _ (.binOp .quo _ _ _ _) _ _; exact qst_pure (p_quo64 rfl rfl (by omega) (by omega) (by omega)) (show drawV _ _ _ _ _ _ _ from h))
    | (show qst _ _ _ (.binOp .shr _ _ _ _) _ _; exact qst_pure (p_shr1 rfl rfl) (show drawV _ _ _ _ _ _ _ from h))
    | (show qst _ _ _ (.convert _ _ _) _ _; first | exact qst_pure (p_convU rfl (by omega)) (show drawV _ _ _ _ _ _ _ from h) | exact qst_pure (p_convI rfl (by omega)) (show drawV _ _ _ _ _ _ _ from h)))) : A := hs h
end Go.Proofs.FW
