/- Lemmas on the way to a statement of this seat: rules for walks, contracts of functions, and plain facts; each is proved, under the conditions that stand in it. -/
import Derived.Test.YtpoolffoalobnaaFW4
set_option linter.all false
namespace Go.Proofs.FW
open Go Go.RowKit

section
variable {P : Program} {ρ : Env} {w : World} {Q : Ex → Env → World → Prop}
theorem c_seq {x y : Code} (h : codeV P x ρ w fun e ρ' w' => match e with | .normal => codeV P y ρ' w' Q | e => Q e ρ' w') : codeV P (.seq x y) ρ w Q := h
theorem c_skip (h : Q .normal ρ w) : codeV P .skip ρ w Q := h
theorem c_label {l : Nat} (h : Q .normal ρ w) : codeV P (.label l) ρ w Q := h
theorem c_exit {id : Nat} (h : Q (.exit id) ρ w) : codeV P (.exit id) ρ w Q := h
theorem c_ret (h : Q .ret ρ w) : codeV P .ret ρ w Q := h
theorem c_region {id : Nat} {l : List Oper} (h : oL P l l.toArray ρ w (Q .normal)) : codeV P (.region id l.toArray false) ρ w Q := h
theorem c_draw {id : Nat} {ops : Array Oper} (p : Plan) (S : World → Prop) (hp : plan ops = p) (hS : ∀ w', w.grownBy w' none → w'.heap = w.heap → S w') (h : ∀ w', w.grownBy w' none → w'.heap = w.heap → drawV P ops S (Q .normal) p ρ w') : codeV P (.region id ops true) ρ w Q := by
  subst hp
  exact ⟨S, hS _ (grownBy_drew w none) rfl, h _ (grownBy_drew w none) rfl⟩
theorem c_block {id : Nat} {x : Code} (h : codeV P x ρ w fun e ρ' w' => match e with | .exit id' => (bif Nat.beq id' id then Q .normal ρ' w' else Q (.exit id') ρ' w') | e => Q e ρ' w') : codeV P (.block id x) ρ w Q := h
theorem c_cond {c : Operand} {x y : Code} {b : Bool} (hc : ev ρ c = .bool b) (h1 : b = true → codeV P x ρ w Q) (h2 : b = false → codeV P y ρ w Q) : codeV P (.cond c x y) ρ w Q := by
  show condV (ev ρ c) _ _
  rw [hc]
  exact ⟨h1, h2⟩
theorem c_dec {c : Operand} {x y : Code} {p : Prop} [Decidable p] (hc : ev ρ c = .bool (decide p)) (h1 : p → codeV P x ρ w Q) (h2 : ¬ p → codeV P y ρ w Q) : codeV P (.cond c x y) ρ w Q :=
  c_cond hc (fun h => h1 (of_decide_eq_true h)) (fun h => h2 (of_decide_eq_false h))
theorem c_yes {c : Operand} {x y : Code} {b : Bool} (hc : ev ρ c = .bool b) (hb : b = true) (h1 : codeV P x ρ w Q) : codeV P (.cond c x y) ρ w Q := c_cond hc (fun _ => h1) (fun h => by rw [hb] at h; cases h)
theorem c_no {c : Operand} {x y : Code} {b : Bool} (hc : ev ρ c = .bool b) (hb : b = false) (h1 : codeV P y ρ w Q) : codeV P (.cond c x y) ρ w Q := c_cond hc (fun h => by rw [hb] at h; cases h) (fun _ => h1)

def putL (σ : Env) : List Nat → List Value → Env
  | s :: ss, v :: vs => upd (putL σ ss vs) s v
  | _, _ => σ
theorem upd_self (ρ : Env) (s : Nat) : upd ρ s (ρ s) = ρ := by
  funext t
  unfold upd
  cases hb : Nat.beq t s with
  | false => rfl
  | true => rw [Nat.eq_of_beq_eq_true hb]; rfl
theorem putL_self (ρ : Env) : ∀ ss : List Nat, putL ρ ss (ss.map ρ) = ρ
  | [] => rfl
  | s :: ss => by simp only [List.map_cons, putL, putL_self ρ ss, upd_self]
/-- A loop, by what holds of some slots. -/
theorem c_loop {x : Code} (ss : List Nat) (I : Nat → List Value → World → Prop) (h0 : ∃ n, I n (ss.map ρ) w)
    (hr : ∀ n vs w' (σ : Env), I n vs w' → codeV P x (putL σ ss vs) w' fun e ρ' w'' => match e with | .normal => ∃ m, m < n ∧ I m (ss.map ρ') w'' | e => Q e ρ' w'') : codeV P (.loop x) ρ w Q := by
  refine ⟨fun n ρ' w' => I n (ss.map ρ') w', h0, fun n ρ' w' hI => ?_⟩
  have := hr n _ w' ρ' hI
  rw [putL_self] at this
  exact this

theorem e_end1 {fn : Func} {K : Value → World → Prop} {t : Nat} {v : Value} (hr : fn.results = #[.tmp t]) (hv : ρ t = v) (h : K v w) : endV P fn K .ret ρ w := by
  subst hv; exact ⟨_, by simp [resV, hr], h⟩
theorem e_end2 {fn : Func} {K : Value → World → Prop} {t u : Nat} {v v' : Value} (hr : fn.results = #[.tmp t, .tmp u]) (hv : ρ t = v) (hv' : ρ u = v') (h : K (.tuple #[v, v']) w) : endV P fn K .ret ρ w := by
  subst hv hv'; exact ⟨_, by simp [resV, hr], h⟩
theorem e_end3 {fn : Func} {K : Value → World → Prop} {t u s : Nat} {v v' v2 : Value} (hr : fn.results = #[.tmp t, .tmp u, .tmp s]) (hv : ρ t = v) (hv' : ρ u = v') (hv2 : ρ s = v2) (h : K (.tuple #[v, v', v2]) w) : endV P fn K .ret ρ w := by
  subst hv hv' hv2; exact ⟨_, by simp [resV, hr], h⟩
theorem e_end0 {fn : Func} {K : Value → World → Prop} (hr : fn.results = #[]) (h : K (.tuple #[]) w) : endV P fn K .ret ρ w := ⟨_, by simp [resV, hr], h⟩
theorem e_end0n {fn : Func} {K : Value → World → Prop} (hr : fn.results = #[]) (h : K (.tuple #[]) w) : endV P fn K .normal ρ w := ⟨_, by simp [resV, hr], h⟩
end

/-- The entrance. -/
theorem enter {P : Program} (hm : P.follows .mixedOrders = true) {f : FuncId} {fn : Func} {n : Nat} {args : List Value} {w : World} {K : Value → World → Prop}
    (hf : P.funcs[f]? = some fn) (hn : fn.ntmps = n) (hok : codeOk n (fn.body.getD .skip) = true) (hb : fn.body.isSome = true) (ha : Nat.ble args.length n = true)
    (h : codeV P (fn.body.getD .skip) (args0 args) w (endV P fn K)) : Calls P f args.toArray w fun e w' => ∃ v, e = .returned v ∧ K v w' := by
  obtain ⟨c, hc⟩ := Option.isSome_iff_exists.1 hb
  rw [hc] at hok h
  exact calls_of_codeV hm hf hc (by rw [hn]; exact hok) (by rw [hn]; exact Nat.le_of_ble_eq_true ha) h

/-! ### slices that are read -/
/-- A slice in memory that nobody writes: its elements, each by E, in cells of size sz. -/
def RSl {α : Type} (E : Mem → α → List Value → Prop) (sz : Nat) (H : Mem) (v : Value) (xs : List α) : Prop :=
  (v = .slice none 0 0 ∧ xs = []) ∨ ∃ b o cap, v = .slice (some ⟨b, o, none⟩) xs.length cap ∧ xs.length ≤ cap ∧
    ∀ i x, xs[i]? = some x → ∃ cs, cs.length = sz ∧ E H x cs ∧ ∀ (j : Nat) c, cs[j]? = some c → H b (o + i * sz + j) = some c
/-- Elements whose cells are known of themselves. -/
def En {α : Type} (enc : α → List Value) : Mem → α → List Value → Prop := fun _ x cs => cs = enc x

section
variable {α : Type} {E : Mem → α → List Value → Prop} {sz : Nat} {H H' : Mem} {v : Value} {xs : List α}
theorem RSl.mono (h : RSl E sz H v xs) (hle : H.le H') (hE : ∀ x cs, E H x cs → E H' x cs) : RSl E sz H' v xs := by
  rcases h with h | ⟨b, o, cap, hv, hc, h⟩
  · exact .inl h
  · refine .inr ⟨b, o, cap, hv, hc, fun i x hx => ?_⟩
    obtain ⟨cs, h1, h2, h3⟩ := h i x hx
    exact ⟨cs, h1, hE x cs h2, fun j c hj => hle _ _ _ (h3 j c hj)⟩
theorem RSl.monoE {enc : α → List Value} (h : RSl (En enc) sz H v xs) (hle : H.le H') : RSl (En enc) sz H' v xs := h.mono hle fun _ _ h => h
/-- What it looks like. -/
theorem RSl.shape (h : RSl E sz H v xs) : ∃ a cap, v = .slice a xs.length cap ∧ xs.length ≤ cap := by
  rcases h with ⟨hv, hx⟩ | ⟨b, o, cap, hv, hc, _⟩
  · subst hx; exact ⟨none, 0, hv, Nat.le_refl _⟩
  · exact ⟨_, cap, hv, hc⟩
theorem RSl.nil (E : Mem → α → List Value → Prop) (sz : Nat) (H : Mem) : RSl E sz H (.slice none 0 0) [] := .inl ⟨rfl, rfl⟩
/-- Where there is an element, it is no nil. -/
theorem RSl.some (h : RSl E sz H v xs) (hn : 0 < xs.length) : ∃ b o cap, v = .slice (some ⟨b, o, none⟩) xs.length cap ∧ xs.length ≤ cap ∧
    ∀ i x, xs[i]? = some x → ∃ cs, cs.length = sz ∧ E H x cs ∧ ∀ (j : Nat) c, cs[j]? = some c → H b (o + i * sz + j) = some c := by
  rcases h with ⟨_, hx⟩ | h
  · subst hx; simp at hn
  · exact h
end
end Go.Proofs.FW
