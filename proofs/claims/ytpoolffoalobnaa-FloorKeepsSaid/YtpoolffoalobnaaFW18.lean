/- Lemmas on the way to a statement of this seat: rules for walks, contracts of functions, and plain facts; each is proved, under the conditions that stand in it. -/
import Derived.Test.YtpoolffoalobnaaFW17
set_option linter.all false
namespace Go.Proofs.FW
open Go Go.RowKit

/-! ### all that a call has of its own, as one list -/
inductive Res where
  | b (g : Nat) (cs : List Value) (e : TypeId)
  | s (v : Value) (e : TypeId) (sz n : Nat) (cs : List Value)
  | m (g : Nat) (es : Array MapEntry) (clock : Nat) (L : List (Int × Int))
  | i (r g clock : Nat) (seen : Array Nat)
def Res.own : Res → Option Nat
  | .b g _ _ => some g
  | .s v _ _ _ _ => v.ownBlock
  | .m g _ _ _ => some g
  | .i r _ _ _ => some r
def Res.ok (w0 : World) (H : Mem) (w : World) : Res → Prop
  | .b g cs e => MineB w0 H w g cs e
  | .s v e sz n cs => Mine w0 H w e sz v n cs
  | .m g es clock L => MineM w0 H w g es clock L
  | .i r g clock seen => IterM w0 H w r g clock seen
def apartR (a b : Option Nat) : Prop := a = none ∨ a ≠ b
theorem apartR.symm {a b : Option Nat} (h : apartR a b) : apartR b a := by
  rcases h with h | h
  · cases b with
    | none => exact .inl rfl
    | some y => subst h; exact .inr (by simp)
  · exact .inr (Ne.symm h)
structure Cx (w0 : World) (H0 H : Mem) (w : World) (L : List Res) : Prop where
  st : St w0 H0 H w
  ok : ∀ r ∈ L, r.ok w0 H w
  apart : L.Pairwise fun a b => apartR a.own b.own

section
variable {w0 w w' : World} {H0 H H' : Mem} {L L' : List Res} {r r' : Res}
theorem Res.own_lt (h : r.ok w0 H w) {g : Nat} (hg : r.own = some g) : g < w.heap.size := by
  cases r with
  | b g' cs e => cases hg; exact MineB.blk h |>.lt
  | s v e sz n cs => exact ((Mine.own h).lt g hg).2
  | m g' es c L => cases hg; exact MineM.lt h
  | i r g' c s => cases hg; exact IterM.lt h
theorem Res.own_off (h : r.ok w0 H w) {g : Nat} (hg : r.own = some g) : Off H g := by
  cases r with
  | b g' cs e => cases hg; exact MineB.off h
  | s v e sz n cs => exact Mine.off h g hg
  | m g' es c L => cases hg; exact MineM.off h
  | i r g' c s => cases hg; exact IterM.off h
theorem Res.own_base (h : r.ok w0 H w) {g : Nat} (hg : r.own = some g) : w0.heap.size ≤ g := by
  cases r with
  | b g' cs e => cases hg; exact MineB.base h
  | s v e sz n cs => exact ((Mine.own h).lt g hg).1
  | m g' es c L => cases hg; exact MineM.base h
  | i r g' c s => cases hg; exact IterM.base h
theorem Res.grow {row : Option Nat} (h : r.ok w0 H w) (hg : w.grownBy w' row) (hr : apartR r.own row) : r.ok w0 H w' := by
  cases r with
  | b g' cs e => exact MineB.grow h hg (hr.elim (fun h => by cases h) id)
  | s v e sz n cs => exact Mine.grow h hg (hr.elim .inl .inr)
  | m g' es c L => exact MineM.grow h hg (hr.elim (fun h => by cases h) id)
  | i r g' c s => exact IterM.grow h hg (hr.elim (fun h => by cases h) id)
theorem Res.call (h : r.ok w0 H w) (c : St w H H' w') : r.ok w0 H' w' := by
  cases r with
  | b g' cs e => exact MineB.call h c
  | s v e sz n cs => exact Mine.call h c
  | m g' es k L => exact MineM.call h c
  | i r g' k s => exact IterM.call h c
theorem Res.mem (h : r.ok w0 H w) (hm : ∀ g, r.own = some g → Off H' g) : r.ok w0 H' w := by
  cases r with
  | b g' cs e => exact ⟨MineB.blk h, hm g' rfl, MineB.base h⟩
  | s v e sz n cs => exact ⟨Mine.own h, fun g hg => hm g hg⟩
  | m g' es c L => exact ⟨MineM.blk h, hm g' rfl, MineM.base h, MineM.st h, MineM.perm h⟩
  | i r g' c s => exact ⟨IterM.blk h, hm r rfl, IterM.base h⟩
theorem apartR.none (a : Option Nat) : apartR a none := by cases a <;> simp [apartR]

theorem Cx.init (h : In H w) : Cx w H H w [] := ⟨St.init h, by simp, .nil⟩
theorem Cx.grow (c : Cx w0 H0 H w L) (hg : w.grownBy w' none) : Cx w0 H0 H w' L := ⟨c.st.grow hg, fun r hr => Res.grow (c.ok r hr) hg (apartR.none _), c.apart⟩
theorem Cx.call (c : Cx w0 H0 H w L) (s : St w H H' w') : Cx w0 H0 H' w' L := ⟨c.st.call s, fun r hr => Res.call (c.ok r hr) s, c.apart⟩
/-- One that is new. -/
theorem Cx.cons (c : Cx w0 H0 H w L) (h : r.ok w0 H w) (hf : ∀ g, r.own = some g → ∀ x ∈ L, x.own ≠ some g) : Cx w0 H0 H w (r :: L) := by
  refine ⟨c.st, fun x hx => ?_, List.pairwise_cons.2 ⟨fun x hx => ?_, c.apart⟩⟩
  · rcases List.mem_cons.1 hx with rfl | hx
    · exact h
    · exact c.ok x hx
  · cases hg : r.own with
    | none => exact .inl rfl
    | some g => exact .inr (Ne.symm (hf g hg x hx))
theorem Cx.new (c : Cx w0 H0 H w L) (hg : w.grownBy w' none) (h : r.ok w0 H w') (hf : ∀ g, r.own = some g → w.heap.size ≤ g) : Cx w0 H0 H w' (r :: L) :=
  (c.grow hg).cons h fun g hg x hx he => by have := Res.own_lt (c.ok x hx) he; have := hf g hg; omega
/-- What a callee hands back of its own. -/
theorem Cx.got (c : Cx w0 H0 H w L) (s : St w H H' w') (h : r.ok w H' w') : Cx w0 H0 H' w' (r :: L) := by
  have hb : r.ok w0 H' w' := by
    cases r with
    | b g' cs e => exact MineB.base' h c.st.size
    | s v e sz n cs => exact Mine.base h c.st.size
    | m g' es cc L => exact ⟨MineM.blk h, MineM.off h, Nat.le_trans c.st.size (MineM.base h), MineM.st h, MineM.perm h⟩
    | i r g' cc s => exact ⟨IterM.blk h, IterM.off h, Nat.le_trans c.st.size (IterM.base h)⟩
  refine (c.call s).cons hb fun g hg x hx he => ?_
  have h1 := Res.own_lt (c.ok x hx) he
  have h2 := Res.own_base h hg
  omega
end

/-- One of the list, and the list with another one in its place. -/
class Upd (L : List Res) (r r' : Res) (L' : outParam (List Res)) : Prop where
  h : ∃ A B, L = A ++ r :: B ∧ L' = A ++ r' :: B
instance {r r' : Res} {L : List Res} : Upd (r :: L) r r' (r' :: L) := ⟨[], L, rfl, rfl⟩
instance {r r' a : Res} {L L' : List Res} [c : Upd L r r' L'] : Upd (a :: L) r r' (a :: L') := by
  obtain ⟨A, B, h1, h2⟩ := c.h
  exact ⟨a :: A, B, by rw [h1]; rfl, by rw [h2]; rfl⟩
class Del (L : List Res) (r : Res) (L' : outParam (List Res)) : Prop where
  h : ∃ A B, L = A ++ r :: B ∧ L' = A ++ B
instance {r : Res} {L : List Res} : Del (r :: L) r L := ⟨[], L, rfl, rfl⟩
instance {r a : Res} {L L' : List Res} [c : Del L r L'] : Del (a :: L) r (a :: L') := by
  obtain ⟨A, B, h1, h2⟩ := c.h
  exact ⟨a :: A, B, by rw [h1]; rfl, by rw [h2]; rfl⟩
/-- A block, by its number. -/
class GetB (L : List Res) (g : Nat) (cs : outParam (List Value)) (e : outParam TypeId) : Prop where
  h : Res.b g cs e ∈ L
instance {g : Nat} {cs : List Value} {e : TypeId} {L : List Res} : GetB (.b g cs e :: L) g cs e := ⟨.head _⟩
instance {g : Nat} {cs : List Value} {e : TypeId} {a : Res} {L : List Res} [c : GetB L g cs e] : GetB (a :: L) g cs e := ⟨.tail _ c.h⟩
/-- A slice, by its value. -/
class GetS (L : List Res) (v : Value) (e : outParam TypeId) (sz n : outParam Nat) (cs : outParam (List Value)) : Prop where
  h : Res.s v e sz n cs ∈ L
instance {v : Value} {e : TypeId} {sz n : Nat} {cs : List Value} {L : List Res} : GetS (.s v e sz n cs :: L) v e sz n cs := ⟨.head _⟩
instance {v : Value} {e : TypeId} {sz n : Nat} {cs : List Value} {a : Res} {L : List Res} [c : GetS L v e sz n cs] : GetS (a :: L) v e sz n cs := ⟨.tail _ c.h⟩

section
variable {w0 w w' : World} {H0 H H' : Mem} {L L' : List Res} {r r' : Res}
theorem pairwise_mid {A B : List Res} {R : Res → Res → Prop} (hs : ∀ a b, R a b → R b a) (h : (A ++ r :: B).Pairwise R) : (∀ x ∈ A ++ B, R r x) ∧ (A ++ B).Pairwise R := by
  rw [List.pairwise_append, List.pairwise_cons] at h
  obtain ⟨h1, ⟨h2, h3⟩, h4⟩ := h
  refine ⟨fun x hx => ?_, List.pairwise_append.2 ⟨h1, h3, fun a ha b hb => h4 a ha b (.tail _ hb)⟩⟩
  rcases List.mem_append.1 hx with hx | hx
  · exact hs _ _ (h4 x hx r (.head _))
  · exact h2 x hx
theorem pairwise_mid' {A B : List Res} {R : Res → Res → Prop} (hs : ∀ a b, R a b → R b a) (h1 : ∀ x ∈ A ++ B, R r x) (h2 : (A ++ B).Pairwise R) : (A ++ r :: B).Pairwise R := by
  rw [List.pairwise_append] at h2
  obtain ⟨h3, h4, h5⟩ := h2
  refine List.pairwise_append.2 ⟨h3, List.pairwise_cons.2 ⟨fun x hx => h1 x (List.mem_append_right _ hx), h4⟩, fun a ha b hb => ?_⟩
  rcases List.mem_cons.1 hb with rfl | hb
  · exact hs _ _ (h1 a (List.mem_append_left _ ha))
  · exact h5 a ha b hb
theorem Del.mem (d : Del L r L') : r ∈ L := by obtain ⟨A, B, h1, h2⟩ := d.h; subst h1; simp
theorem Cx.del (c : Cx w0 H0 H w L) (d : Del L r L') : Cx w0 H0 H w L' ∧ r.ok w0 H w ∧ ∀ x ∈ L', apartR r.own x.own := by
  obtain ⟨A, B, rfl, rfl⟩ := d.h
  have hp := pairwise_mid (fun _ _ h => h.symm) c.apart
  refine ⟨⟨c.st, fun x hx => c.ok x ?_, hp.2⟩, c.ok r (by simp), hp.1⟩
  rcases List.mem_append.1 hx with hx | hx
  · exact List.mem_append_left _ hx
  · exact List.mem_append_right _ (.tail _ hx)
theorem Upd.mem (d : Upd L r r' L') : r ∈ L := by obtain ⟨A, B, h1, h2⟩ := d.h; subst h1; simp
/-- One is written. -/
theorem Cx.upd (c : Cx w0 H0 H w L) (u : Upd L r r' L') (hg : w.grownBy w' r.own) (hs : St w0 H0 H w') (hr' : r'.ok w0 H w') (hn : ∀ g, r'.own = some g → w.heap.size ≤ g ∨ r.own = some g) : Cx w0 H0 H w' L' := by
  obtain ⟨A, B, rfl, rfl⟩ := u.h
  have hp := pairwise_mid (fun _ _ h => h.symm) c.apart
  have hm : ∀ x ∈ A ++ B, x ∈ A ++ r :: B := fun x hx => by
    rcases List.mem_append.1 hx with hx | hx
    · exact List.mem_append_left _ hx
    · exact List.mem_append_right _ (.tail _ hx)
  refine ⟨hs, fun x hx => ?_, pairwise_mid' (fun _ _ h => h.symm) (fun x hx => ?_) hp.2⟩
  · by_cases hx' : x ∈ A ++ B
    · exact Res.grow (c.ok x (hm x hx')) hg (hp.1 x hx').symm
    · have : x = r' := by
        rcases List.mem_append.1 hx with h | h
        · exact absurd (List.mem_append_left _ h) hx'
        · rcases List.mem_cons.1 h with h | h
          · exact h
          · exact absurd (List.mem_append_right _ h) hx'
      subst this; exact hr'
  · cases ho : r'.own with
    | none => exact .inl rfl
    | some g =>
      rcases hn g ho with h | h
      · refine .inr fun e => ?_
        have := Res.own_lt (c.ok x (hm x hx)) e.symm
        omega
      · have := hp.1 x hx
        rw [h] at this; exact this
theorem Cx.getB {g : Nat} {cs : List Value} {e : TypeId} (c : Cx w0 H0 H w L) (h : GetB L g cs e) : MineB w0 H w g cs e := c.ok _ h.h
theorem Cx.getS {v : Value} {n sz : Nat} {cs : List Value} {e : TypeId} (c : Cx w0 H0 H w L) (h : GetS L v e sz n cs) : Mine w0 H w e sz v n cs := c.ok _ h.h
/-- A block becomes memory. -/
theorem Cx.pubB {g : Nat} {cs : List Value} {e : TypeId} (c : Cx w0 H0 H w L) (d : Del L (.b g cs e) L') : Cx w0 H0 (H.pub g cs) w L' ∧ H.le (H.pub g cs) := by
  obtain ⟨c1, h, hap⟩ := c.del d
  obtain ⟨st, hle, ho⟩ := MineB.publish h c.st
  refine ⟨⟨st, fun x hx => Res.mem (c1.ok x hx) fun k hk o => ?_, c1.apart⟩, hle⟩
  rw [ho k (fun e => by have := hap x hx; rw [hk, e] at this; exact this.elim (fun h => by cases h) (fun h => h rfl)) o]
  exact Res.own_off (c1.ok x hx) hk o
/-- A slice becomes memory. -/
theorem Cx.pubS {v : Value} {n sz : Nat} {cs : List Value} {e : TypeId} (c : Cx w0 H0 H w L) (d : Del L (.s v e sz n cs) L') (h1 : ∀ c ∈ cs, c.oneCell' = true) : ∃ H', Cx w0 H0 H' w L' ∧ H.le H' ∧ RFl sz H' v n cs := by
  obtain ⟨c1, h, hap⟩ := c.del d
  obtain ⟨H', st, hle, hr, ho⟩ := Mine.publish h c.st h1
  refine ⟨H', ⟨st, fun x hx => Res.mem (c1.ok x hx) fun k hk o => ?_, c1.apart⟩, hle, hr⟩
  rw [ho k (fun e => by have := hap x hx; rw [hk, e] at this; exact this.elim (fun h => by have h' : v.ownBlock = none := h; rw [h'] at e; cases e) (fun h => h (by rw [← e]; exact e.symm))) o]
  exact Res.own_off (c1.ok x hx) hk o
theorem Cx.pubE {α : Type} {enc : α → List Value} {v : Value} {sz : Nat} {xs : List α} {e : TypeId} (c : Cx w0 H0 H w L) (d : Del L (.s v e sz xs.length (xs.flatMap enc)) L') (h1 : ∀ x, ∀ c ∈ enc x, c.oneCell' = true) : ∃ H', Cx w0 H0 H' w L' ∧ H.le H' ∧ RE enc sz H' v xs :=
  c.pubS d (fun c hc => by obtain ⟨x, _, hx⟩ := List.mem_flatMap.1 hc; exact h1 x c hx)
end

/-! ### rules -/
section
variable {P : Program} {ops : Array Oper} {ρ : Env} {w : World} {Q : Env → World → Prop} {d : Option Tmp} {ty : TypeId} {v : Value} {w0 : World} {H0 H : Mem} {L L' : List Res}
theorem e_boxC {t : TypeId} {x : Operand} {cs : List Value} (cx : Cx w0 H0 H w L) (hx : ev ρ x = v) (hc : v.cells.toList = cs)
    (h : ∀ g w', Cx w0 H0 H w' (.b g cs t :: L) → Q (put ρ d (.pointer (some ⟨g, 0, none⟩))) w') : ost P (.box t x) ty d ρ w Q :=
  e_box hx hc cx.st fun g w' hlt hg m => h g w' (cx.new hg m fun k hk => by cases hk; exact hlt)
theorem e_allocC {t : TypeId} {z : Value} [c : Zro P t z] {cs : List Value} (cx : Cx w0 H0 H w L) (hc : z.cells.toList = cs)
    (h : ∀ g w', Cx w0 H0 H w' (.b g cs t :: L) → Q (put ρ d (.pointer (some ⟨g, 0, none⟩))) w') : ost P (.alloc t) ty d ρ w Q :=
  e_alloc cx.st hc fun g w' hlt hg m => h g w' (cx.new hg m fun k hk => by cases hk; exact hlt)
/-- A whole struct is stored. -/
theorem e_storeC {t : TypeId} {x y : Operand} {g : Nat} {cs vs : List Value} {e : TypeId} [c : Shp P t true vs.length] [gb : GetB L g cs e] [u : Upd L (.b g cs e) (.b g vs e) L'] (cx : Cx w0 H0 H w L) (hx : ev ρ x = .pointer (some ⟨g, 0, none⟩)) (hy : ev ρ y = .agg vs.toArray) (hv : ∀ v ∈ vs, v.oneCell' = true) (hl : Nat.beq vs.length cs.length = true)
    (h : ∀ w', Cx w0 H0 H w' L' → Q ρ w') : ost P (.store t x y) ty none ρ w Q := by
  have hl := Nat.eq_of_beq_eq_true hl
  have m := cx.getB gb
  refine e_storeN hx m hy hv (by omega) fun w' hg m' => h w' (cx.upd u hg (cx.st.write hg m.base m.off) ?_ fun k hk => .inr hk)
  rw [List.take_zero, List.nil_append, Nat.zero_add, List.drop_eq_nil_of_le (by omega), List.append_nil] at m'
  exact m'
/-- One cell is stored. -/
theorem e_cellC {t : TypeId} {x y : Operand} {g o : Nat} {cs cs' : List Value} {e : TypeId} [c : Shp P t false 1] [gb : GetB L g cs e] [u : Upd L (.b g cs e) (.b g cs' e) L'] (cx : Cx w0 H0 H w L) (hx : ev ρ x = .pointer (some ⟨g, o, none⟩)) (hy : ev ρ y = v) (hv : v.oneCell' = true) (ho : Nat.blt o cs.length = true) (hcs : cs.set o v = cs')
    (h : ∀ w', Cx w0 H0 H w' L' → Q ρ w') : ost P (.store t x y) ty none ρ w Q := by
  subst hcs
  have m := cx.getB gb
  exact e_store1 hx m hy hv (Nat.le_of_ble_eq_true ho) fun w' hg m' => h w' (cx.upd u hg (cx.st.write hg m.base m.off) m' fun k hk => .inr hk)
theorem e_buildC1 {t e : TypeId} {sz bytes : Nat} {z : Value} [c : Slc P t e sz bytes z] {x : Operand} {parts : Array (Nat × Operand)} {cells : List Value} (cx : Cx w0 H0 H w L)
    (hp : parts = #[(0, x)]) (hx : ev ρ x = .agg cells.toArray) (hl : cells.length = sz) (hpos : Nat.blt 0 sz = true) (hsmall : Nat.ble sz 16777216 = true)
    (h : ∀ g w', Cx w0 H0 H w' (.b g cells e :: L) → Q (put ρ d (.slice (some ⟨g, 0, none⟩) 1 1)) w') : ost P (.buildSlice t 1 parts) ty d ρ w Q :=
  e_buildSlice1 cx.st hp hx hl hpos hsmall fun g w' hlt hg m => h g w' (cx.new hg m fun k hk => by cases hk; exact hlt)
theorem e_buildC2 {t e : TypeId} {sz bytes : Nat} {z : Value} [c : Slc P t e sz bytes z] {x y : Operand} {parts : Array (Nat × Operand)} {c1 c2 : List Value} (cx : Cx w0 H0 H w L)
    (hp : parts = #[(0, x), (1, y)]) (hx : ev ρ x = .agg c1.toArray) (hy : ev ρ y = .agg c2.toArray) (h1 : c1.length = sz) (h2 : c2.length = sz) (hpos : Nat.blt 0 sz = true) (hsmall : Nat.ble (2 * sz) 16777216 = true)
    (h : ∀ g w', Cx w0 H0 H w' (.b g (c1 ++ c2) e :: L) → Q (put ρ d (.slice (some ⟨g, 0, none⟩) 2 2)) w') : ost P (.buildSlice t 2 parts) ty d ρ w Q :=
  e_buildSlice2 cx.st hp hx hy h1 h2 hpos hsmall fun g w' hlt hg m => h g w' (cx.new hg m fun k hk => by cases hk; exact hlt)
theorem a_loadC {t : TypeId} [c : Shp P t false 1] {x : Operand} {b o : Nat} {cs : List Value} {e : TypeId} [gb : GetB L b cs e] (cx : Cx w0 H0 H w L) (hx : ev ρ x = .pointer (some ⟨b, o, none⟩)) (hv : cs[o]? = some v) : At P ty (.load t x) ρ w v := a_load hx ((cx.getB gb).blk.cell hv)
theorem a_loadCN {t : TypeId} {x : Operand} {b : Nat} {cs : List Value} {k : Nat} [c : Shp P t true k] {e : TypeId} [gb : GetB L b cs e] (cx : Cx w0 H0 H w L) (hx : ev ρ x = .pointer (some ⟨b, 0, none⟩)) (hk : Nat.beq cs.length k = true) : At P ty (.load t x) ρ w (.agg cs.toArray) := a_loadMN hx (cx.getB gb) (Nat.eq_of_beq_eq_true hk)
theorem a_loadCH {t : TypeId} [c : Shp P t false 1] {x : Operand} {b o : Nat} (cx : Cx w0 H0 H w L) (hx : ev ρ x = .pointer (some ⟨b, o, none⟩)) (hv : H b o = some v) : At P ty (.load t x) ρ w v := a_load hx (cx.st.mem _ _ _ hv)
theorem a_loadCH0 {t : TypeId} [c : Shp P t false 1] {x : Operand} {b o : Nat} (cx : Cx w0 H0 H w L) (hx : ev ρ x = .pointer (some ⟨b, o, none⟩)) (hv : H0 b o = some v) : At P ty (.load t x) ρ w v := a_load hx (cx.st.mem _ _ _ (cx.st.ext.le _ _ _ hv))
/-- An element of a slice that is read. -/
theorem a_loadCE {α : Type} {enc : α → List Value} {t : TypeId} {x : Operand} {b o : Nat} {u : α} [c : Shp P t true (enc u).length] (cx : Cx w0 H0 H w L) (hc : ∀ (j : Nat) c, (enc u)[j]? = some c → H b (o + j) = some c) (hx : ev ρ x = .pointer (some ⟨b, o, none⟩)) : At P ty (.load t x) ρ w (.agg (enc u).toArray) :=
  a_loadN hx fun j v hj => cx.st.mem _ _ _ (hc j v hj)
theorem a_loadCE0 {α : Type} {enc : α → List Value} {t : TypeId} {x : Operand} {b o : Nat} {u : α} [c : Shp P t true (enc u).length] (cx : Cx w0 H0 H w L) (hc : ∀ (j : Nat) c, (enc u)[j]? = some c → H0 b (o + j) = some c) (hx : ev ρ x = .pointer (some ⟨b, o, none⟩)) : At P ty (.load t x) ρ w (.agg (enc u).toArray) :=
  a_loadN hx fun j v hj => cx.st.mem _ _ _ (cx.st.ext.le _ _ _ (hc j v hj))
theorem r_callC {x : Operand} {args : Array Operand} {f : FuncId} {caps : Array Value} {as : List Value} {fn : Func} {tt : Array TypeId} {R : Mem → Value → World → Prop} (hf : P.funcs[f]? = some fn) (hbody : fn.body.isNone = false) (hname : (fn.name == "runtime.NumGoroutine") = false)
    (hx : ev ρ x = .func (.func f) #[] caps) (ha' : args.toList.map (ev ρ) ++ caps.toList = as) (cx : Cx w0 H0 H w L)
    (hc : FncW P f as H w R) (h : ∀ v w' H', R H' v w' → St w H H' w' → Cx w0 H0 H' w' L → Q (put ρ d v) w') :
    ost P (.call { callee := .value x, args := args, argTypes := tt }) ty d ρ w Q := by
  refine r_call hf hbody hname hx ha' hc ?_
  rintro v w' ⟨H', st, hr⟩
  exact h v w' H' hr st (cx.call st)
/-- A call that hands back a slice of its own. -/
theorem r_callS {x : Operand} {args : Array Operand} {f : FuncId} {caps : Array Value} {as : List Value} {fn : Func} {tt : Array TypeId} {e : TypeId} {sz n : Nat} {cs : List Value} (hf : P.funcs[f]? = some fn) (hbody : fn.body.isNone = false) (hname : (fn.name == "runtime.NumGoroutine") = false)
    (hx : ev ρ x = .func (.func f) #[] caps) (ha' : args.toList.map (ev ρ) ++ caps.toList = as) (cx : Cx w0 H0 H w L)
    (hc : FncW P f as H w fun H' v w' => H' = H ∧ Mine w H w' e sz v n cs) (h : ∀ v w', Cx w0 H0 H w' (.s v e sz n cs :: L) → Q (put ρ d v) w') :
    ost P (.call { callee := .value x, args := args, argTypes := tt }) ty d ρ w Q := by
  refine r_call hf hbody hname hx ha' hc ?_
  rintro v w' ⟨H', st, rfl, hm⟩
  exact h v w' (cx.got (r := .s v e sz n cs) st hm)
/-- A call that writes a slice of the caller's own, and hands back what it is now. -/
theorem r_callM {x : Operand} {args : Array Operand} {f : FuncId} {caps : Array Value} {as : List Value} {fn : Func} {tt : Array TypeId} {e e' : TypeId} {sz n sz' n' : Nat} {s : Value} {cs cs' : List Value} {L' : Value → List Res} (hf : P.funcs[f]? = some fn) (hbody : fn.body.isNone = false) (hname : (fn.name == "runtime.NumGoroutine") = false)
    (hx : ev ρ x = .func (.func f) #[] caps) (ha' : args.toList.map (ev ρ) ++ caps.toList = as) (cx : Cx w0 H0 H w L)
    (hc : MutW P f as w0 H0 H w s.ownBlock fun v w' => Mine w0 H w' e' sz' v n' cs' ∧ (∀ g, v.ownBlock = some g → w.heap.size ≤ g ∨ s.ownBlock = some g))
    (u : ∀ v, Upd L (.s s e sz n cs) (.s v e' sz' n' cs') (L' v)) (h : ∀ v w', Cx w0 H0 H w' (L' v) → Q (put ρ d v) w') :
    ost P (.call { callee := .value x, args := args, argTypes := tt }) ty d ρ w Q := by
  refine r_call hf hbody hname hx ha' hc ?_
  rintro v w' ⟨st, hg, hm, hn⟩
  exact h v w' (cx.upd (r := .s s e sz n cs) (r' := .s v e' sz' n' cs') (u v) hg st hm hn)
end
/-- What a region that draws looks at: memory from H on, and these. -/
def CxS (w0 : World) (H0 H : Mem) (L : List Res) (w : World) : Prop := ∃ H', H.le H' ∧ Cx w0 H0 H' w L
section
variable {P : Program} {ρ : Env} {w : World} {Q : Ex → Env → World → Prop} {ty : TypeId} {v : Value} {w0 : World} {H0 H : Mem} {L : List Res}
theorem Cx.cxs (cx : Cx w0 H0 H w L) : CxS w0 H0 H L w := ⟨H, Mem.le_refl _, cx⟩
theorem c_drawC {id : Nat} {ops : Array Oper} (p : Plan) (cx : Cx w0 H0 H w L) (hp : plan ops = p) (h : ∀ w', Cx w0 H0 H w' L → drawV P ops (CxS w0 H0 H L) (Q .normal) p ρ w') : codeV P (.region id ops true) ρ w Q :=
  c_draw p (CxS w0 H0 H L) hp (fun w' hg _ => (cx.grow hg).cxs) fun w' hg _ => h w' (cx.grow hg)
theorem a_loadD {t : TypeId} [c : Shp P t false 1] {x : Operand} {b o : Nat} {cs : List Value} {e : TypeId} [gb : GetB L b cs e] (cx : CxS w0 H0 H L w) (hx : ev ρ x = .pointer (some ⟨b, o, none⟩)) (hv : cs[o]? = some v) : At P ty (.load t x) ρ w v := by
  obtain ⟨H', hle, cx⟩ := cx
  exact a_loadC cx hx hv
theorem a_loadDN {t : TypeId} {x : Operand} {b : Nat} {cs : List Value} {k : Nat} [c : Shp P t true k] {e : TypeId} [gb : GetB L b cs e] (cx : CxS w0 H0 H L w) (hx : ev ρ x = .pointer (some ⟨b, 0, none⟩)) (hk : Nat.beq cs.length k = true) : At P ty (.load t x) ρ w (.agg cs.toArray) := by
  obtain ⟨H', hle, cx⟩ := cx
  exact a_loadCN cx hx hk
theorem a_loadDH {t : TypeId} [c : Shp P t false 1] {x : Operand} {b o : Nat} (cx : CxS w0 H0 H L w) (hx : ev ρ x = .pointer (some ⟨b, o, none⟩)) (hv : H b o = some v) : At P ty (.load t x) ρ w v := by
  obtain ⟨H', hle, cx⟩ := cx
  exact a_loadCH cx hx (hle _ _ _ hv)
theorem a_loadDH0 {t : TypeId} [c : Shp P t false 1] {x : Operand} {b o : Nat} (cx : CxS w0 H0 H L w) (hx : ev ρ x = .pointer (some ⟨b, o, none⟩)) (hv : H0 b o = some v) : At P ty (.load t x) ρ w v := by
  obtain ⟨H', hle, cx⟩ := cx
  exact a_loadCH0 cx hx hv
theorem a_loadDE {α : Type} {enc : α → List Value} {t : TypeId} {x : Operand} {b o : Nat} {u : α} [c : Shp P t true (enc u).length] (cx : CxS w0 H0 H L w) (hc : ∀ (j : Nat) c, (enc u)[j]? = some c → H b (o + j) = some c) (hx : ev ρ x = .pointer (some ⟨b, o, none⟩)) : At P ty (.load t x) ρ w (.agg (enc u).toArray) := by
  obtain ⟨H', hle, cx⟩ := cx
  exact a_loadCE cx (fun j c hj => hle _ _ _ (hc j c hj)) hx
theorem a_loadDE0 {α : Type} {enc : α → List Value} {t : TypeId} {x : Operand} {b o : Nat} {u : α} [c : Shp P t true (enc u).length] (cx : CxS w0 H0 H L w) (hc : ∀ (j : Nat) c, (enc u)[j]? = some c → H0 b (o + j) = some c) (hx : ev ρ x = .pointer (some ⟨b, o, none⟩)) : At P ty (.load t x) ρ w (.agg (enc u).toArray) := by
  obtain ⟨H', hle, cx⟩ := cx
  exact a_loadCE0 cx hc hx
theorem CxS.mono {H' : Mem} (cx : Cx w0 H0 H' w L) (h : H.le H') : CxS w0 H0 H L w := ⟨H', h, cx⟩
end
end Go.Proofs.FW
