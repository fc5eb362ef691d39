/- Lemmas on the way to a statement of this seat: rules for walks, contracts of functions, and plain facts; each is proved, under the conditions that stand in it. -/
import Derived.Orders
import Derived.OrdersHeld
import Derived.KernelRfl
import Derived.Laws.AppendOwn
import Derived.Tactics
set_option linter.all false
namespace Go.Proofs.FW
open Go

abbrev Env := Nat → Value
def upd (ρ : Env) (d : Nat) (v : Value) : Env := fun t => bif Nat.beq t d then v else ρ t
def put (ρ : Env) : Option Nat → Value → Env
  | some d, v => upd ρ d v
  | none, _ => ρ
def ev (ρ : Env) : Operand → Value
  | .tmp t => ρ t
  | .const v => v
  | .global g => .pointer (some ⟨g, 0, none⟩)
  | .func f => .func (.func f) #[] #[]

structure Rel (n : Nat) (a : Act) (ρ : Env) : Prop where
  defers : a.defers = []
  size : a.tmps.size = n
  tmps : ∀ t, a.tmps.getD t undef = ρ t

theorem Rel.ev {n a ρ} (h : Rel n a ρ) : a.eval = ev ρ := by
  funext x
  cases x with
  | tmp t => exact h.tmps t
  | _ => rfl

theorem Rel.put {n a ρ} (h : Rel n a ρ) (d : Option Nat) (hd : ∀ k, d = some k → k < n) (v : Value) : Rel n (a.put d v) (put ρ d v) := by
  cases d with
  | none => exact h
  | some k =>
    have hk := hd k rfl
    refine ⟨h.defers, by simp [Act.put, h.size], fun t => ?_⟩
    have ht := h.tmps t
    rw [Array.getD_eq_getD_getElem?] at ht ⊢
    unfold Act.put FW.put upd
    dsimp only
    by_cases e : t = k
    · subst e
      have : t < a.tmps.size := by rw [h.size]; exact hk
      simp [this]
    · have : Nat.beq t k = false := by
        cases hb : Nat.beq t k with
        | false => rfl
        | true => exact absurd (Nat.eq_of_beq_eq_true hb) e
      rw [this, Array.getElem?_setIfInBounds_ne (Ne.symm e)]
      exact ht

/-- What is asked of the result of one operation. -/
def uponV (P : Program) (K : Value → World → Prop) : Result Next → Prop
  | .ok (.value v) w => K v w
  | .ok .skip w => K undef w
  | .ok (.enter f args) w => Calls P f args w fun e w' => ∃ v, e = .returned v ∧ K v w'
  | _ => False

def runV {α : Type} (P : Program) (s : Sem α) (w : World) (K : α → World → Prop) : Prop :=
  match s.run P w with
  | .ok v w' => K v w'
  | _ => False

def opV (P : Program) (ty : TypeId) (o : Op) (ρ : Env) (w : World) (K : Value → World → Prop) : Prop :=
  uponV P K ((execOp (ev ρ) { dst := none, op := o, type := ty, pos := "", after := #[], guard := none }).run P w)

theorem uponV_wp {P : Program} {o : Oper} {a : Act} {K : Act → World → Prop} {Q : Exit → Act → World → Prop} {r : Result Next}
    (h : uponV P (fun v w' => K (a.put o.dst v) w') r) : o.upon P a K Q r := by
  cases r with
  | halt x w => exact h.elim
  | ok n w =>
    cases n <;> simp only [uponV] at h <;> simp only [Oper.upon]
    case value v => exact h
    case skip => exact h
    case enter f args => exact h.mono fun e w' ⟨v, he, hk⟩ => by subst he; exact hk

theorem opV_sound {P : Program} {o : Oper} {a : Act} {ρ : Env} {w : World} {K : Act → World → Prop} {Q : Exit → Act → World → Prop}
    (hev : a.eval = ev ρ) (h : opV P o.type o.op ρ w fun v w' => K (a.put o.dst v) w') : o.wp P a w K Q := by
  unfold Oper.wp
  rw [hev]
  exact uponV_wp h

def yv (ops : Array Oper) (ρ : Env) (j : Nat) : Option Bool :=
  match (ops[j]?).bind (·.dst) with
  | some d => match ρ d with | .bool b => some b | _ => none
  | none => none

theorem Rel.yielded {n a ρ} (h : Rel n a ρ) (ops : Array Oper) : yielded ops a.tmps = yv ops ρ := by
  funext j
  unfold Go.yielded yv
  cases (ops[j]?).bind (·.dst) with
  | none => rfl
  | some d =>
    simp only [Option.bind_some]
    rw [← h.tmps d, Array.getD_eq_getD_getElem?]
    cases a.tmps[d]? with
    | none => rfl
    | some v => cases v <;> rfl

def dstOk (n : Nat) (o : Oper) : Bool := match o.dst with | some d => Nat.blt d n | none => true
theorem dstOk_lt {n : Nat} {o : Oper} (h : dstOk n o = true) : ∀ k, o.dst = some k → k < n := by
  intro k hk
  unfold dstOk at h
  rw [hk] at h
  exact Nat.le_of_ble_eq_true h

/-- One operation of a region, by its guard. -/
def operV (P : Program) (ops : Array Oper) (o : Oper) (ρ : Env) (w : World) (K : Env → World → Prop) : Prop :=
  match o.guard with
  | none => opV P o.type o.op ρ w fun v w' => K (put ρ o.dst v) w'
  | some (j, want) => match yv ops ρ j with
    | some b => bif (b == want) then opV P o.type o.op ρ w fun v w' => K (put ρ o.dst v) w' else K (put ρ o.dst undef) w
    | none => K (put ρ o.dst undef) w

def opsV (P : Program) (ops : Array Oper) : List Oper → Env → World → (Env → World → Prop) → Prop
  | [], ρ, w, Q => Q ρ w
  | o :: rest, ρ, w, Q => operV P ops o ρ w fun ρ' w' => opsV P ops rest ρ' w' Q

theorem opV_mono {P : Program} {ty : TypeId} {o : Op} {ρ : Env} {w : World} {K K' : Value → World → Prop} (hk : ∀ v w, K v w → K' v w) (h : opV P ty o ρ w K) : opV P ty o ρ w K' := by
  unfold opV at h ⊢
  generalize (execOp (ev ρ) _).run P w = r at h ⊢
  cases r with
  | halt x w => exact h.elim
  | ok n w => cases n <;> first | exact hk _ _ h | exact h.elim | exact Calls.mono h fun e w' ⟨v, he, hv⟩ => ⟨v, he, hk _ _ hv⟩

theorem operV_sound {n : Nat} {P : Program} {ops : Array Oper} {o : Oper} {a : Act} {ρ : Env} {w : World} {K : Act → World → Prop} {K' : Env → World → Prop} {Q : Exit → Act → World → Prop}
    (hr : Rel n a ρ) (hd : dstOk n o = true) (h : operV P ops o ρ w K') (hK : ∀ a ρ w, Rel n a ρ → K' ρ w → K a w) :
    if Region.wanted o (yielded ops a.tmps) then o.wp P a w K Q else K (a.put o.dst undef) w := by
  have hp : ∀ v, Rel n (a.put o.dst v) (put ρ o.dst v) := fun v => hr.put o.dst (dstOk_lt hd) v
  have hop : (opV P o.type o.op ρ w fun v w' => K' (put ρ o.dst v) w') → o.wp P a w K Q := fun h =>
    opV_sound hr.ev (opV_mono (fun v w' hk => hK _ _ _ (hp v) hk) h)
  unfold operV at h
  rw [hr.yielded]
  cases hg : o.guard with
  | none =>
    rw [hg] at h
    have hw : Region.wanted o (yv ops ρ) = true := by unfold Region.wanted; rw [hg]
    rw [if_pos hw]
    exact hop h
  | some jw =>
    obtain ⟨j, want⟩ := jw
    rw [hg] at h
    dsimp only at h
    obtain hy | ⟨b, hy⟩ := Option.eq_none_or_eq_some (yv ops ρ j)
    · rw [hy] at h
      have hw : ¬ Region.wanted o (yv ops ρ) = true := by unfold Region.wanted; rw [hg]; simp [hy]
      rw [if_neg hw]
      exact hK _ _ _ (hp _) h
    · rw [hy] at h
      dsimp only at h
      by_cases hb : b = want
      · subst hb
        rw [beq_self_eq_true] at h
        have hw : Region.wanted o (yv ops ρ) = true := by unfold Region.wanted; rw [hg]; simp [hy]
        rw [if_pos hw]
        exact hop h
      · rw [beq_false_of_ne hb] at h
        have hw : ¬ Region.wanted o (yv ops ρ) = true := by unfold Region.wanted; rw [hg]; simpa [hy] using hb
        rw [if_neg hw]
        exact hK _ _ _ (hp _) h

theorem opsV_sound {n : Nat} {P : Program} {ops : Array Oper} {Q : Exit → Act → World → Prop} {Q' : Env → World → Prop}
    (hQ : ∀ a ρ w, Rel n a ρ → Q' ρ w → Q .normal a w) :
    ∀ (l : List Oper) (a : Act) (ρ : Env) (w : World), l.all (dstOk n) = true → Rel n a ρ → opsV P ops l ρ w Q' → wpList P ops Q l a w
  | [], a, ρ, w, _, hr, h => hQ a ρ w hr h
  | o :: l, a, ρ, w, hd, hr, h => by
    rw [List.all_cons, Bool.and_eq_true] at hd
    refine wpList_step fun K hK => ?_
    exact operV_sound hr hd.1 h fun a ρ w hr' h' => hK a w (opsV_sound hQ l a ρ w hd.2 hr' h')

/-! ### a region that draws its order -/
def effOp : Op → Bool
  | .move _ | .assign _ | .pick .. | .load .. | .nilCheck _ | .binOp .. | .unOp .. | .convert .. | .slice .. | .fieldAddr .. | .field .. | .indexAddr .. | .index .. | .extract .. | .makeFunc .. | .makeInterface .. => false
  | .call { callee := .builtin .len, .. } | .call { callee := .builtin .cap, .. } | .call { callee := .builtin .min, .. } | .call { callee := .builtin .max, .. } => false
  | _ => true

/-- One operation that changes nothing, in every world of a class. -/
def quietO (P : Program) (S : World → Prop) (o : Oper) (ρ : Env) (K : Value → Prop) : Prop :=
  ∃ v, (∀ w, S w → (execOp (ev ρ) o).run P w = .ok (.value v) w) ∧ K v

def quietV (P : Program) (ops : Array Oper) (S : World → Prop) (o : Oper) (ρ : Env) (K : Env → Prop) : Prop :=
  match o.guard with
  | none => quietO P S o ρ fun v => K (put ρ o.dst v)
  | some (j, want) => match yv ops ρ j with
    | some b => bif (b == want) then quietO P S o ρ fun v => K (put ρ o.dst v) else K (put ρ o.dst undef)
    | none => K (put ρ o.dst undef)

inductive Plan where
  | done
  | q (i : Nat) (p : Plan)
  | e1 (i : Nat) (p : Plan)
  | e2 (i : Nat) (p : Plan) (j : Nat) (p' : Plan)

def reach (ops : Array Oper) : Nat → Nat → Nat → Bool
  | 0, _, _ => false
  | fuel + 1, j, i => match ops[j]? with
    | none => false
    | some o => o.after.any fun e => Region.binds .any e && (e.on == i || reach ops fuel e.on i)
/-- All that is quiet comes ahead of it. -/
def skipB (ops : Array Oper) (j : Nat) : Bool :=
  (List.range ops.size).all fun i => i == j || (match ops[i]? with | some o => effOp o.op | none => true) || reach ops ops.size j i

def nth : List Oper → Nat → Option Oper
  | [], _ => none
  | o :: _, 0 => some o
  | _ :: l, n + 1 => nth l n
theorem nth_eq (l : List Oper) (i : Nat) : nth l i = l[i]? := by
  induction l generalizing i with
  | nil => rfl
  | cons o l ih => cases i with
    | zero => rfl
    | succ n => simpa [nth] using ih n
theorem nth_arr (ops : Array Oper) (i : Nat) : nth ops.toList i = ops[i]? := by rw [nth_eq]; simp

def drawV (P : Program) (ops : Array Oper) (S : World → Prop) (Q : Env → World → Prop) : Plan → Env → World → Prop
  | .done, ρ, w => Q ρ w
  | .q i p, ρ, w => match nth ops.toList i with
    | none => False
    | some o => quietV P ops S o ρ fun ρ' => drawV P ops S Q p ρ' w
  | .e1 i p, ρ, w => match nth ops.toList i with
    | none => False
    | some o => operV P ops o ρ w fun ρ' w' => (skipB ops i = false → S w') ∧ drawV P ops S Q p ρ' w'
  | .e2 i p j p', ρ, w => (match nth ops.toList i with
    | none => False
    | some o => operV P ops o ρ w fun ρ' w' => (skipB ops i = false → S w') ∧ drawV P ops S Q p ρ' w') ∧
    (match nth ops.toList j with
    | none => False
    | some o => operV P ops o ρ w fun ρ' w' => (skipB ops j = false → S w') ∧ drawV P ops S Q p' ρ' w')

def noQuiet : Plan → Bool
  | .done => true
  | .q _ _ => false
  | .e1 _ p => noQuiet p
  | .e2 _ p _ p' => noQuiet p && noQuiet p'

def planOk (n : Nat) (ops : Array Oper) : Plan → Array Bool → Bool
  | .done, listed => (Region.ready .any ops listed).isEmpty
  | .q i p, listed => match ops[i]? with
    | none => false
    | some o => dstOk n o && !effOp o.op && Region.free .any ops listed i && (Region.ready .any ops listed).contains i && planOk n ops p (listed.setIfInBounds i true)
  | .e1 i p, listed => match ops[i]? with
    | none => false
    | some o => dstOk n o && Region.ready .any ops listed == [i] && (!skipB ops i || noQuiet p) && planOk n ops p (listed.setIfInBounds i true)
  | .e2 i p j p', listed => match ops[i]?, ops[j]? with
    | some o, some o' => dstOk n o && dstOk n o' && Region.ready .any ops listed == [i, j] && (!skipB ops i || noQuiet p) && (!skipB ops j || noQuiet p') && planOk n ops p (listed.setIfInBounds i true) && planOk n ops p' (listed.setIfInBounds j true)
    | _, _ => false

def mkPlan (ops : Array Oper) : Nat → Array Bool → Plan
  | 0, _ => .done
  | fuel + 1, listed =>
    let r := Region.ready .any ops listed
    match r.find? fun i => match ops[i]? with | some o => !effOp o.op && Region.free .any ops listed i | none => false with
    | some i => .q i (mkPlan ops fuel (listed.setIfInBounds i true))
    | none => match r with
      | [i] => .e1 i (mkPlan ops fuel (listed.setIfInBounds i true))
      | [i, j] => .e2 i (mkPlan ops fuel (listed.setIfInBounds i true)) j (mkPlan ops fuel (listed.setIfInBounds j true))
      | _ => .done

def plan (ops : Array Oper) : Plan := mkPlan ops ops.size (Array.replicate ops.size false)

section
variable {P : Program} {ops : Array Oper} {Q : Exit → Act → World → Prop} {S : World → Prop}

def Closed (ops : Array Oper) (listed : Array Bool) : Prop :=
  ∀ k o, ops[k]? = some o → listed.getD k false = true → ∀ e ∈ o.after, Region.binds .any e = true → listed.getD e.on false = true

theorem Closed.set {listed : Array Bool} (h : Closed ops listed) {j : Nat} (hj : j ∈ Region.ready .any ops listed) : Closed ops (listed.setIfInBounds j true) := by
  intro k o hk hl e he hb
  refine getD_set_true ?_
  obtain ⟨_, oj, hoj, hall⟩ := mem_ready.1 hj
  rcases Decidable.em (j = k) with rfl | hne
  · rw [hk] at hoj; cases hoj; exact hall e he hb
  · rw [getD_set_ne false hne] at hl
    exact h k o hk hl e he hb

theorem Closed.reach {listed : Array Bool} (h : Closed ops listed) : ∀ (fuel j i : Nat),
    (∀ o, ops[j]? = some o → ∀ e ∈ o.after, Region.binds .any e = true → listed.getD e.on false = true) → FW.reach ops fuel j i = true → listed.getD i false = true
  | 0, _, _, _, hr => by simp [FW.reach] at hr
  | fuel + 1, j, i, hd, hr => by
    unfold FW.reach at hr
    cases ho : ops[j]? with
    | none => rw [ho] at hr; cases hr
    | some o =>
      rw [ho] at hr
      obtain ⟨e, he, hb⟩ := Array.any_eq_true'.1 hr
      rw [Bool.and_eq_true, Bool.or_eq_true] at hb
      have hl := hd o ho e he hb.1
      rcases hb.2 with h1 | h1
      · rw [← beq_iff_eq.1 h1]; exact hl
      · exact Closed.reach h fuel e.on i (fun o' ho' e' he' hb' => h e.on o' ho' hl e' he' hb') h1

theorem skip_false {listed : Array Bool} (h : Closed ops listed) {i j : Nat} {oi : Oper} (hi : ops[i]? = some oi) (hq : effOp oi.op = false) (hir : i ∈ Region.ready .any ops listed)
    (hj : j ∈ Region.ready .any ops listed) (hne : j ≠ i) : skipB ops j = false := by
  cases hs : skipB ops j with
  | false => rfl
  | true =>
    exfalso
    have h1 := List.all_eq_true.1 hs i (List.mem_range.2 (Array.getElem?_eq_some_iff.1 hi).1)
    rw [hi] at h1
    dsimp only at h1
    rw [hq, beq_false_of_ne (Ne.symm hne)] at h1
    simp only [Bool.false_or] at h1
    obtain ⟨_, oj, hoj, hall⟩ := mem_ready.1 hj
    have h2 := h.reach ops.size j i (fun o ho => by rw [hoj] at ho; cases ho; exact hall) h1
    have h3 := (mem_ready.1 hir).1
    rcases Nat.lt_or_ge i listed.size with h' | h'
    · simp [h'] at h3 h2; rw [h3] at h2; cases h2
    · simp [Array.getElem?_eq_none h'] at h2

/-- Whatever order is picked from here on. -/
def wpAnyL (P : Program) (ops : Array Oper) (Q : Exit → Act → World → Prop) (S : World → Prop) : Nat → Array Bool → Act → World → Prop
  | 0, listed, a, w => Region.ready .any ops listed = [] ∧ Q .normal a w
  | fuel + 1, listed, a, w =>
    (Region.ready .any ops listed = [] → Q .normal a w) ∧
    ∀ i ∈ Region.ready .any ops listed, wpOp P ops Q i (fun a' w' => (skipB ops i = false → S w') ∧ wpAnyL P ops Q S fuel (listed.setIfInBounds i true) a' w') a w

theorem wpAny_of_L : ∀ (fuel : Nat) (listed : Array Bool) (a : Act) (w : World), wpAnyL P ops Q S fuel listed a w → wpAny P .any ops Q fuel listed a w
  | 0, _, _, _, h => h
  | fuel + 1, _, _, _, h => ⟨h.1, fun i hi => wpOp_mono (fun a' w' h' => wpAny_of_L fuel _ a' w' h'.2) (h.2 i hi)⟩

theorem wpAnyL_first {i : Nat} {oi : Oper} {v : Value} (hi : ops[i]? = some oi) (hq : effOp oi.op = false) (hsel : ∀ (j : Nat) (o : Oper) cs b, ops[j]? = some o → o.op ≠ .select cs b)
    (hQ : ∀ c a w, Q (.panic c) (a.put oi.dst v) w → Q (.panic c) a w) (fuel : Nat) :
    ∀ (listed : Array Bool) (a : Act) (w : World), Closed ops listed →
      (∀ j oj, ops[j]? = some oj → j ≠ i → listed.getD j true = false → (∀ e ∈ oj.after, Region.binds .any e = true → e.on ≠ i) → oi.apart ops oj = true) →
      i ∈ Region.ready .any ops listed → YieldsIf P ops S oi v a → S w →
      wpAnyL P ops Q S fuel (listed.setIfInBounds i true) (a.put oi.dst v) w → wpAnyL P ops Q S (fuel + 1) listed a w := by
  induction fuel with
  | zero =>
    intro listed a w _ _ hr hy hS H
    refine ⟨fun h => (by rw [h] at hr; cases hr), fun j hj => ?_⟩
    rcases Decidable.em (j = i) with rfl | hji
    · exact hy.wpOp hi hS ⟨fun _ => hS, H⟩
    · have := ready_mono hj hji
      rw [H.1] at this
      cases this
  | succ fuel ih =>
    intro listed a w hcl hfree hr hy hS H
    refine ⟨fun h => (by rw [h] at hr; cases hr), fun j hj => ?_⟩
    rcases Decidable.em (j = i) with rfl | hji
    · exact hy.wpOp hi hS ⟨fun _ => hS, H⟩
    · have hsk := skip_false hcl hi hq hr hj hji
      obtain ⟨hjun, oj, hoj, hall⟩ := mem_ready.1 hj
      have hi0 := (mem_ready.1 hr).1
      have hnot : ∀ e ∈ oj.after, Region.binds .any e = true → e.on ≠ i := fun e he hb heq => by
        have h1 := hall e he hb
        rw [heq] at h1
        rcases Nat.lt_or_ge i listed.size with h' | h'
        · simp [h'] at hi0 h1; rw [hi0] at h1; cases h1
        · simp [Array.getElem?_eq_none h'] at h1
      have h2 := wpOp_putIf hoj (hfree j oj hoj hji hjun hnot) (fun cs b => hsel i oi cs b hi) (fun cs b => hsel j oj cs b hoj) hQ hy (H.2 j (ready_mono hj hji))
      have hfree' : ∀ k ok, ops[k]? = some ok → k ≠ i → (listed.setIfInBounds j true).getD k true = false →
          (∀ e ∈ ok.after, Region.binds .any e = true → e.on ≠ i) → oi.apart ops ok = true := fun k ok hk hki hun hno => by
        refine hfree k ok hk hki ?_ hno
        rcases Decidable.em (j = k) with rfl | hjk
        · exact hjun
        · rw [getD_set_ne true hjk] at hun; exact hun
      have hir : i ∈ Region.ready .any ops (listed.setIfInBounds j true) := ready_mono hr (Ne.symm hji)
      refine wpOp_mono (fun a' w' h3 => ?_) h2
      obtain ⟨hy', hS', hrest⟩ := h3
      rw [Array.setIfInBounds_comm _ _ (Ne.symm hji)] at hrest
      exact ⟨hS', ih (listed.setIfInBounds j true) a' w' (hcl.set hj) hfree' hir hy' (hS' hsk) hrest⟩

theorem quietV_yields {n : Nat} {o : Oper} {a : Act} {ρ : Env} {K : Env → Prop} (hr : Rel n a ρ) (h : quietV P ops S o ρ K) :
    ∃ v, YieldsIf P ops S o v a ∧ K (put ρ o.dst v) := by
  have key : (quietO P S o ρ fun v => K (put ρ o.dst v)) → Region.wanted o (yielded ops a.tmps) = true → ∃ v, YieldsIf P ops S o v a ∧ K (put ρ o.dst v) := by
    rintro ⟨v, hv, hk⟩ hw
    exact ⟨v, .inl ⟨hw, fun w hs => by rw [hr.ev]; exact hv w hs⟩, hk⟩
  have no : K (put ρ o.dst undef) → Region.wanted o (yielded ops a.tmps) = false → ∃ v, YieldsIf P ops S o v a ∧ K (put ρ o.dst v) := fun h hw => ⟨undef, .inr ⟨hw, rfl⟩, h⟩
  unfold quietV at h
  cases hg : o.guard with
  | none =>
    rw [hg] at h
    exact key h (by unfold Region.wanted; rw [hg])
  | some jw =>
    obtain ⟨j, want⟩ := jw
    rw [hg] at h
    dsimp only at h
    obtain hy | ⟨b, hy⟩ := Option.eq_none_or_eq_some (yv ops ρ j)
    · rw [hy] at h
      exact no h (by rw [hr.yielded]; unfold Region.wanted; rw [hg]; simp [hy])
    · rw [hy] at h
      dsimp only at h
      rcases Decidable.em (b = want) with rfl | hb
      · rw [beq_self_eq_true] at h
        exact key h (by rw [hr.yielded]; unfold Region.wanted; rw [hg]; simp [hy])
      · rw [beq_false_of_ne hb] at h
        exact no h (by rw [hr.yielded]; unfold Region.wanted; rw [hg]; simpa [hy] using hb)

theorem drawV_sound {n : Nat} {Q' : Env → World → Prop} (hs : Region.noSelect ops = true) (hQ : ∀ a ρ w, Rel n a ρ → Q' ρ w → Q .normal a w) (hQp : ∀ c a a' w, Q (.panic c) a w → Q (.panic c) a' w) :
    ∀ (p : Plan) (fuel : Nat) (listed : Array Bool) (a : Act) (ρ : Env) (w : World), planOk n ops p listed = true → Closed ops listed → Rel n a ρ → (noQuiet p = true ∨ S w) → drawV P ops S Q' p ρ w →
      listed.count false ≤ fuel → listed.size = ops.size → wpAnyL P ops Q S fuel listed a w := by
  have cnt : ∀ (listed : Array Bool) (i : Nat), i ∈ Region.ready .any ops listed → listed.size = ops.size → (listed.setIfInBounds i true).count false + 1 = listed.count false := by
    intro listed i hi hsz
    obtain ⟨h0, o, ho, _⟩ := mem_ready.1 hi
    have hlt : i < listed.size := by rw [hsz]; exact (Array.getElem?_eq_some_iff.1 ho).1
    have hf : listed[i] = false := by simpa [hlt] using h0
    rw [Array.setIfInBounds_def, dif_pos hlt, Array.count_set]
    have : 0 < listed.count false := Array.count_pos_iff.2 (hf ▸ Array.getElem_mem hlt)
    simp [hf]
    omega
  have step : ∀ (p : Plan) (i : Nat) (o : Oper) (m : Nat) (listed : Array Bool) (a : Act) (ρ : Env) (w : World),
      (∀ (fuel : Nat) (listed : Array Bool) (a : Act) (ρ : Env) (w : World), planOk n ops p listed = true → Closed ops listed → Rel n a ρ → (noQuiet p = true ∨ S w) → drawV P ops S Q' p ρ w →
        listed.count false ≤ fuel → listed.size = ops.size → wpAnyL P ops Q S fuel listed a w) →
      ops[i]? = some o → dstOk n o = true → i ∈ Region.ready .any ops listed → (!skipB ops i || noQuiet p) = true → planOk n ops p (listed.setIfInBounds i true) = true → Closed ops listed → Rel n a ρ →
      (operV P ops o ρ w fun ρ' w' => (skipB ops i = false → S w') ∧ drawV P ops S Q' p ρ' w') → (listed.setIfInBounds i true).count false ≤ m → listed.size = ops.size →
      wpOp P ops Q i (fun a' w' => (skipB ops i = false → S w') ∧ wpAnyL P ops Q S m (listed.setIfInBounds i true) a' w') a w := by
    intro p i o m listed a ρ w ih ho hd hmem hsk hp hcl hr h hc hsz
    have hK : ∀ (a : Act) (ρ : Env) (w : World), Rel n a ρ → ((skipB ops i = false → S w) ∧ drawV P ops S Q' p ρ w) → (skipB ops i = false → S w) ∧ wpAnyL P ops Q S m (listed.setIfInBounds i true) a w :=
      fun a ρ w hr' h' => ⟨h'.1, ih m _ a ρ w hp (hcl.set hmem) hr' (by
        cases hsb : skipB ops i with
        | false => exact .inr (h'.1 hsb)
        | true => rw [hsb] at hsk; exact .inl (by simpa using hsk)) h'.2 hc (by simpa using hsz)⟩
    have h1 := operV_sound (Q := Q) hr hd h hK
    unfold wpOp
    rw [ho]
    dsimp only
    split at h1
    · rename_i hw; rw [if_pos hw]; exact .inl h1
    · rename_i hw; rw [if_neg hw]; exact h1
  intro p
  induction p with
  | done =>
    intro fuel listed a ρ w hok _ hr _ h _ _
    have hnil : Region.ready .any ops listed = [] := List.isEmpty_iff.1 hok
    have hq := hQ a ρ w hr h
    cases fuel with
    | zero => exact ⟨hnil, hq⟩
    | succ m => exact ⟨fun _ => hq, by rw [hnil]; intro i hi; cases hi⟩
  | q i p ih =>
    intro fuel listed a ρ w hok hcl hr hS h hc hsz
    unfold planOk at hok
    unfold drawV at h
    simp only [nth_arr] at h
    cases ho : ops[i]? with
    | none => rw [ho] at h; exact h.elim
    | some o =>
      rw [ho] at hok h
      dsimp only at hok h
      simp only [Bool.and_eq_true, Bool.not_eq_true'] at hok
      obtain ⟨⟨⟨⟨hd, hq⟩, hf⟩, hrd⟩, hp⟩ := hok
      have hmem : i ∈ Region.ready .any ops listed := by simpa using hrd
      obtain ⟨v, hy, hk⟩ := quietV_yields hr h
      have hcnt := cnt listed i hmem hsz
      obtain ⟨m, rfl⟩ : ∃ m, fuel = m + 1 := ⟨fuel - 1, by omega⟩
      exact wpAnyL_first ho hq (Region.noSelect_spec hs) (fun c a w h => hQp c _ _ w h) m listed a w hcl (Region.free_spec ho hf) hmem hy (hS.resolve_left (by simp [noQuiet]))
        (ih m _ _ _ w hp (hcl.set hmem) (hr.put o.dst (dstOk_lt hd) v) (.inr (hS.resolve_left (by simp [noQuiet]))) hk (by omega) (by simpa using hsz))
  | e1 i p ih =>
    intro fuel listed a ρ w hok hcl hr hS h hc hsz
    unfold planOk at hok
    unfold drawV at h
    simp only [nth_arr] at h
    cases ho : ops[i]? with
    | none => rw [ho] at h; exact h.elim
    | some o =>
      rw [ho] at hok h
      dsimp only at hok h
      simp only [Bool.and_eq_true, beq_iff_eq] at hok
      obtain ⟨⟨⟨hd, hrd⟩, hsk⟩, hp⟩ := hok
      have hmem : i ∈ Region.ready .any ops listed := by rw [hrd]; simp
      have hcnt := cnt listed i hmem hsz
      obtain ⟨m, rfl⟩ : ∃ m, fuel = m + 1 := ⟨fuel - 1, by omega⟩
      refine ⟨fun h0 => (by rw [hrd] at h0; cases h0), fun k hk => ?_⟩
      rw [hrd, List.mem_singleton] at hk
      subst hk
      exact step p k o m listed a ρ w ih ho hd hmem hsk hp hcl hr h (by omega) hsz
  | e2 i p j p' ih ih' =>
    intro fuel listed a ρ w hok hcl hr hS h hc hsz
    unfold planOk at hok
    unfold drawV at h
    simp only [nth_arr] at h
    cases ho : ops[i]? with
    | none => rw [ho] at h; exact h.1.elim
    | some o =>
      cases ho' : ops[j]? with
      | none => rw [ho'] at h; exact h.2.elim
      | some o' =>
        rw [ho, ho'] at hok h
        dsimp only at hok h
        simp only [Bool.and_eq_true, beq_iff_eq] at hok
        obtain ⟨⟨⟨⟨⟨⟨hd, hd'⟩, hrd⟩, hsk⟩, hsk'⟩, hp⟩, hp'⟩ := hok
        have hmem : i ∈ Region.ready .any ops listed := by rw [hrd]; simp
        have hmem' : j ∈ Region.ready .any ops listed := by rw [hrd]; simp
        have hcnt := cnt listed i hmem hsz
        have hcnt' := cnt listed j hmem' hsz
        obtain ⟨m, rfl⟩ : ∃ m, fuel = m + 1 := ⟨fuel - 1, by omega⟩
        refine ⟨fun h0 => (by rw [hrd] at h0; cases h0), fun k hk => ?_⟩
        rw [hrd] at hk
        rcases List.mem_cons.1 hk with rfl | hk
        · exact step p k o m listed a ρ w ih ho hd hmem hsk hp hcl hr h.1 (by omega) hsz
        · rw [List.mem_singleton] at hk
          subst hk
          exact step p' k o' m listed a ρ w ih' ho' hd' hmem' hsk' hp' hcl hr h.2 (by omega) hsz
end

/-! ### code -/
inductive Ex where
  | normal
  | exit (id : Nat)
  | ret

def condV (c : Value) (X Y : Prop) : Prop :=
  match c with
  | .bool b => (b = true → X) ∧ (b = false → Y)
  | _ => False

def regionV (P : Program) (ops : Array Oper) (draw : Bool) (ρ : Env) (w : World) (Q : Env → World → Prop) : Prop :=
  match draw with
  | false => opsV P ops ops.toList ρ w Q
  | true => ∃ S : World → Prop, S { w with drawn := w.drawn + 1 } ∧ drawV P ops S Q (plan ops) ρ { w with drawn := w.drawn + 1 }

def codeV (P : Program) : Code → Env → World → (Ex → Env → World → Prop) → Prop
  | .skip, ρ, w, Q | .label _, ρ, w, Q => Q .normal ρ w
  | .region _ ops draw, ρ, w, Q => regionV P ops draw ρ w (Q .normal)
  | .seq x y, ρ, w, Q => codeV P x ρ w fun e ρ' w' => match e with | .normal => codeV P y ρ' w' Q | e => Q e ρ' w'
  | .cond c x y, ρ, w, Q => condV (ev ρ c) (codeV P x ρ w Q) (codeV P y ρ w Q)
  | .block id x, ρ, w, Q => codeV P x ρ w fun e ρ' w' => match e with | .exit id' => (bif Nat.beq id' id then Q .normal ρ' w' else Q (.exit id') ρ' w') | e => Q e ρ' w'
  | .loop x, ρ, w, Q => ∃ I : Nat → Env → World → Prop, (∃ n, I n ρ w) ∧ ∀ n ρ w, I n ρ w → codeV P x ρ w fun e ρ' w' => match e with | .normal => ∃ m, m < n ∧ I m ρ' w' | e => Q e ρ' w'
  | .exit id, ρ, w, Q => Q (.exit id) ρ w
  | .ret, ρ, w, Q => Q .ret ρ w
  | _, _, _, _ => False

def codeOk (n : Nat) : Code → Bool
  | .region _ ops draw => ops.toList.all (dstOk n) && (!draw || (Region.noSelect ops && planOk n ops (plan ops) (Array.replicate ops.size false)))
  | .seq x y | .cond _ x y => codeOk n x && codeOk n y
  | .block _ x | .loop x => codeOk n x
  | _ => true

def exOf : Ex → Exit
  | .normal => .normal
  | .exit id => .exit id
  | .ret => .ret

theorem codeV_sound {n : Nat} {P : Program} (hm : P.follows .mixedOrders = true) : ∀ (c : Code) (Q : Exit → Act → World → Prop) (Q' : Ex → Env → World → Prop), codeOk n c = true →
    (∀ e a ρ w, Rel n a ρ → Q' e ρ w → Q (exOf e) a w) → (∀ c a a' w, Q (.panic c) a w → Q (.panic c) a' w) → ∀ (a : Act) (ρ : Env) (w : World), Rel n a ρ → codeV P c ρ w Q' → c.wp P Q a w
  | .skip, Q, Q', _, hQ, _, a, ρ, w, hr, h => wp_skip (hQ .normal a ρ w hr h)
  | .label _, Q, Q', _, hQ, _, a, ρ, w, hr, h => wp_label (hQ .normal a ρ w hr h)
  | .exit _, Q, Q', _, hQ, _, a, ρ, w, hr, h => wp_exit (hQ (.exit _) a ρ w hr h)
  | .ret, Q, Q', _, hQ, _, a, ρ, w, hr, h => wp_ret (hQ .ret a ρ w hr h)
  | .goto _, Q, Q', _, hQ, _, a, ρ, w, hr, h => h.elim
  | .refuse _, Q, Q', _, hQ, _, a, ρ, w, hr, h => h.elim
  | .scope _, Q, Q', _, hQ, _, a, ρ, w, hr, h => h.elim
  | .rangeFunc .., Q, Q', _, hQ, _, a, ρ, w, hr, h => h.elim
  | .region _ ops false, Q, Q', hok, hQ, _, a, ρ, w, hr, h => wp_region_list (opsV_sound (fun a ρ w hr h => hQ .normal a ρ w hr h) ops.toList a ρ w (by simp only [codeOk, Bool.and_eq_true] at hok; exact hok.1) hr h)
  | .region _ ops true, Q, Q', hok, hQ, hQp, a, ρ, w, hr, h => by
    obtain ⟨S, hS, hd⟩ := h
    simp only [codeOk, Bool.and_eq_true, Bool.not_true, Bool.false_or] at hok
    refine wp_region_any hm (wpAny_of_L _ _ _ _ (drawV_sound (S := S) (Q' := Q' .normal) hok.2.1 (fun a ρ w hr h => hQ .normal a ρ w hr h) hQp (plan ops) _ _ a ρ _ hok.2.2 ?_ hr (.inr hS) hd ?_ (by simp)))
    · intro k o hk hl
      rw [Array.getD_eq_getD_getElem?] at hl
      have hlt : k < ops.size := (Array.getElem?_eq_some_iff.1 hk).1
      simp [hlt] at hl
    · have := Array.count_le_size (a := false) (xs := Array.replicate ops.size false)
      simp at this ⊢
  | .seq x y, Q, Q', hok, hQ, hQp, a, ρ, w, hr, h => by
    simp only [codeOk, Bool.and_eq_true] at hok
    refine wp_seq (codeV_sound hm x _ _ hok.1 ?_ ?_ a ρ w hr h)
    · intro e a ρ w hr he
      cases e with
      | normal => exact codeV_sound hm y Q Q' hok.2 hQ hQp a ρ w hr he
      | exit id => exact hQ (.exit id) a ρ w hr he
      | ret => exact hQ .ret a ρ w hr he
    · intro c a a' w hp; exact hQp c a a' w hp
  | .cond c x y, Q, Q', hok, hQ, hQp, a, ρ, w, hr, h => by
    simp only [codeOk, Bool.and_eq_true] at hok
    unfold codeV condV at h
    rw [← hr.ev] at h
    cases hc : a.eval c with
    | bool b =>
      rw [hc] at h
      dsimp only at h
      exact wp_cond_split hc (fun hb => codeV_sound hm x Q Q' hok.1 hQ hQp a ρ w hr (h.1 hb)) (fun hb => codeV_sound hm y Q Q' hok.2 hQ hQp a ρ w hr (h.2 hb))
    | _ => rw [hc] at h; exact h.elim
  | .block id x, Q, Q', hok, hQ, hQp, a, ρ, w, hr, h => by
    refine wp_block (codeV_sound hm x _ _ hok ?_ ?_ a ρ w hr h)
    · intro e a ρ w hr he
      cases e with
      | normal => exact hQ .normal a ρ w hr he
      | exit id' =>
        dsimp only at he
        show (if id' = id then Q .normal a w else Q (.exit id') a w)
        rcases Decidable.em (id' = id) with rfl | hne
        · rw [Nat.beq_refl] at he
          rw [if_pos rfl]
          exact hQ .normal a ρ w hr he
        · have : Nat.beq id' id = false := by
            cases hb : Nat.beq id' id with
            | false => rfl
            | true => exact absurd (Nat.eq_of_beq_eq_true hb) hne
          rw [this] at he
          rw [if_neg hne]
          exact hQ (.exit id') a ρ w hr he
      | ret => exact hQ .ret a ρ w hr he
    · intro c a a' w hp; exact hQp c a a' w hp
  | .loop x, Q, Q', hok, hQ, hQp, a, ρ, w, hr, h => by
    obtain ⟨I, ⟨m0, h0⟩, hround⟩ := h
    intro b k cs
    have key : ∀ m a ρ w, Rel n a ρ → I m ρ w → ∃ e a' w', Q e a' w' ∧ Arrives P (lone (b.at a (.code x :: .inLoop x :: k)) cs w) b k cs e a' w' := by
      intro m
      induction m using Nat.strongRecOn with
      | _ m ih =>
        intro a ρ w hr hI
        have hb := codeV_sound (n := n) hm x (Exit.then (fun a' w' => ∃ m' ρ', m' < m ∧ Rel n a' ρ' ∧ I m' ρ' w') Q) _ hok (fun e a ρ w hr he => by
          cases e with
          | normal => obtain ⟨m', hlt, hI'⟩ := he; exact ⟨m', ρ, hlt, hr, hI'⟩
          | exit id => exact hQ (.exit id) a ρ w hr he
          | ret => exact hQ .ret a ρ w hr he) (fun c a a' w hp => hQp c a a' w hp) a ρ w hr (hround m ρ w hI)
        obtain ⟨e, a₁, w₁, hq, harr⟩ := hb b (.inLoop x :: k) cs
        cases e with
        | normal =>
          obtain ⟨m', ρ', hlt, hr', hI'⟩ := hq
          obtain ⟨e₂, a₂, w₂, hq₂, harr₂⟩ := ih m' hlt a₁ ρ' w₁ hr' hI'
          exact ⟨e₂, a₂, w₂, hq₂, .of_steps (Steps.trans harr (.one step_inLoop)) harr₂⟩
        | exit id => exact ⟨_, a₁, w₁, hq, .pass (x := .inLoop x) rfl (fun _ _ => .inl (by simp)) harr⟩
        | goto l => exact ⟨_, a₁, w₁, hq, .pass (x := .inLoop x) rfl (fun _ _ => .inl (by simp)) harr⟩
        | ret => exact ⟨_, a₁, w₁, hq, .pass (x := .inLoop x) rfl (fun _ _ => .inl (by simp)) harr⟩
        | panic ch => exact ⟨_, a₁, w₁, hq, .pass (x := .inLoop x) rfl (fun _ _ => .inl (by simp)) harr⟩
        | outgrown => exact ⟨_, a₁, w₁, hq, .pass (x := .inLoop x) rfl (fun _ _ => .inl (by simp)) harr⟩
    obtain ⟨e, a', w', hq, harr⟩ := key m0 a ρ w hr h0
    exact ⟨e, a', w', hq, .of_steps (.one step_loop) harr⟩

/-- The frame at the beginning. -/
def args0 (l : List Value) : Env := fun t => l.getD t undef

/-- What is asked where a function ends. -/
def resV (fn : Func) (ρ : Env) : Sem Value := do
  let vs ← fn.results.mapM fun
    | .tmp t => pure (ρ t)
    | .cell a t => do loadVar t (← asAddr (ρ a))
  pure (if h : vs.size = 1 then vs[0] else .tuple vs)

def endV (P : Program) (fn : Func) (K : Value → World → Prop) : Ex → Env → World → Prop
  | .exit _, _, _ => False
  | _, ρ, w => ∃ v, (resV fn ρ).run P w = .ok v w ∧ K v w

theorem endV_post {n : Nat} {P : Program} {fn : Func} {K : Value → World → Prop} : ∀ (e : Ex) (a : Act) (ρ : Env) (w : World), Rel n a ρ → endV P fn K e ρ w →
    bodyPost P fn (fun e w' => ∃ v, e = .returned v ∧ K v w') (exOf e) a w := by
  have key : ∀ (a : Act) (ρ : Env) (w : World), Rel n a ρ → (∃ v, (resV fn ρ).run P w = .ok v w ∧ K v w) → a.defers = [] ∧ ∃ v, (results fn a.tmps).run P w = .ok v w ∧ ∃ v', Ending.returned v = .returned v' ∧ K v' w := by
    intro a ρ w hr h
    refine ⟨hr.defers, ?_⟩
    have he : results fn a.tmps = resV fn ρ := by
      unfold results resV
      congr 2
      funext x
      cases x with
      | tmp t => exact congrArg pure (hr.tmps t)
      | cell ad t => simp only [hr.tmps]
    rw [he]
    obtain ⟨v, hv, hk⟩ := h
    exact ⟨v, hv, v, rfl, hk⟩
  intro e a ρ w hr h
  cases e with
  | exit id => exact h.elim
  | normal => exact key a ρ w hr h
  | ret => exact key a ρ w hr h

theorem calls_of_codeV {P : Program} (hm : P.follows .mixedOrders = true) {f : FuncId} {fn : Func} {c : Code} {args : List Value} {w : World} {K : Value → World → Prop}
    (hf : P.funcs[f]? = some fn) (hb : fn.body = some c) (hok : codeOk fn.ntmps c = true) (hn : args.length ≤ fn.ntmps)
    (h : codeV P c (args0 args) w (endV P fn K)) : Calls P f args.toArray w fun e w' => ∃ v, e = .returned v ∧ K v w' := by
  refine calls_of_wp hf hb (codeV_sound (n := fn.ntmps) hm c _ _ hok endV_post ?_ _ (args0 args) w ?_ h)
  · intro ch a a' w hp
    obtain ⟨_, v, hv, _⟩ := hp
    cases hv
  · refine ⟨rfl, by simp; omega, fun t => ?_⟩
    rw [Array.getD_eq_getD_getElem?]
    unfold args0
    rw [List.getD_eq_getElem?_getD]
    rcases Nat.lt_or_ge t args.length with ht | ht
    · rw [Array.getElem?_append_left (by simpa using ht)]
      simp [ht]
    · rw [Array.getElem?_append_right (by simpa using ht)]
      simp only [List.getElem?_eq_none ht, Option.getD_none, Array.getElem?_replicate]
      split <;> rfl
end Go.Proofs.FW
