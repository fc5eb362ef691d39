/- Lemmas on the way to a statement of this seat: rules for walks, contracts of functions, and plain facts; each is proved, under the conditions that stand in it. -/
import Derived.Test.YtpoolffoalobnaaFW19
set_option linter.all false
namespace Go.Proofs.FW
open Go Go.RowKit
class GetM (L : List Res) (g : Nat) (es : outParam (Array MapEntry)) (clock : outParam Nat) (Lp : outParam (List (Int × Int))) : Prop where
  h : Res.m g es clock Lp ∈ L
instance {g clock : Nat} {es : Array MapEntry} {Lp : List (Int × Int)} {L : List Res} : GetM (.m g es clock Lp :: L) g es clock Lp := ⟨.head _⟩
instance {g clock : Nat} {es : Array MapEntry} {Lp : List (Int × Int)} {a : Res} {L : List Res} [c : GetM L g es clock Lp] : GetM (a :: L) g es clock Lp := ⟨.tail _ c.h⟩
class GetI (L : List Res) (r : Nat) (g clock : outParam Nat) (seen : outParam (Array Nat)) : Prop where
  h : Res.i r g clock seen ∈ L
instance {r g clock : Nat} {seen : Array Nat} {L : List Res} : GetI (.i r g clock seen :: L) r g clock seen := ⟨.head _⟩
instance {r g clock : Nat} {seen : Array Nat} {a : Res} {L : List Res} [c : GetI L r g clock seen] : GetI (a :: L) r g clock seen := ⟨.tail _ c.h⟩
section
variable {P : Program} {ρ : Env} {w : World} {Q : Env → World → Prop} {d : Option Tmp} {ty : TypeId} {v : Value} {w0 : World} {H0 H : Mem} {L : List Res} {g clock : Nat} {es : Array MapEntry} {Lp : List (Int × Int)}
theorem Cx.getM (c : Cx w0 H0 H w L) (h : GetM L g es clock Lp) : MineM w0 H w g es clock Lp := c.ok _ h.h
theorem e_makeMapC {t : TypeId} (cx : Cx w0 H0 H w L)
    (h : ∀ g w', Cx w0 H0 H w' (.m g #[] 0 [] :: L) → Q (put ρ d (.map (some g))) w') : ost P (.makeMap t none) ty d ρ w Q :=
  e_makeMap cx.st fun g w' hlt hg _ m => h g w' (cx.new hg m fun k hk => by cases hk; exact hlt)
theorem r_lookupC {t k e : TypeId} [c : MapT P t k e] [c1 : IntT P k .i64] [c2 : Zro P e (.int .i64 0)] {x y : Operand} {a : Int} [gm : GetM L g es clock Lp] (cx : Cx w0 H0 H w L) (hx : ev ρ x = .map (some g)) (hy : ev ρ y = .int .i64 a)
    (h : ∀ v, Q (put ρ d (.tuple #[v, .bool (Lp.any fun p => decide (p.1 = a))])) w) : ost P (.lookup t x y true) ty d ρ w Q := by
  obtain ⟨v, hv⟩ := a_lookupOk (P := P) (ty := ty) (t := t) (k := k) (e := e) (cx.getM gm) hx hy
  exact r_at hv (h v)
theorem a_lenC {t k e : TypeId} [c : MapT P t k e] {x : Operand} {tt : Array TypeId} [gm : GetM L g es clock Lp] (cx : Cx w0 H0 H w L) (ht : tt = #[t]) (hx : ev ρ x = .map (some g)) :
    At P ty (.call { callee := .builtin .len, args := #[x], argTypes := tt }) ρ w (.int .i64 Lp.length) := a_lenM (cx.getM gm) ht hx
theorem e_mapNewC {t k e : TypeId} [c : MapT P t k e] [c1 : IntT P k .i64] {x y z : Operand} {a n : Int} {L' : Array MapEntry → Nat → List Res} [gm : GetM L g es clock Lp] (u : ∀ es' clock', Upd L (.m g es clock Lp) (.m g es' clock' ((a, n) :: Lp)) (L' es' clock'))
    (cx : Cx w0 H0 H w L) (hno : ∀ p ∈ Lp, p.1 ≠ a) (hx : ev ρ x = .map (some g)) (hy : ev ρ y = .int .i64 a) (hz : ev ρ z = .int .i64 n)
    (h : ∀ w' es' clock', Cx w0 H0 H w' (L' es' clock') → Q (put ρ d undef) w') : ost P (.mapUpdate t x y z) ty d ρ w Q :=
  e_mapNew cx.st (cx.getM gm) hno hx hy hz fun w' es' clock' hg hs hm => h w' es' clock' (cx.upd (u es' clock') hg hs hm fun k hk => .inr hk)
theorem e_mapDelC {t k e : TypeId} [c : MapT P t k e] [c1 : IntT P k .i64] {x y : Operand} {a : Int} {tt : Array TypeId} {L' : Array MapEntry → List Res} [gm : GetM L g es clock Lp] (u : ∀ es', Upd L (.m g es clock Lp) (.m g es' clock (Lp.filter fun p => !decide (p.1 = a))) (L' es'))
    (cx : Cx w0 H0 H w L) (ht : tt = #[t, k]) (hx : ev ρ x = .map (some g)) (hy : ev ρ y = .int .i64 a)
    (h : ∀ w' es', Cx w0 H0 H w' (L' es') → Q (put ρ d (.tuple #[])) w') : ost P (.call { callee := .builtin .delete, args := #[x, y], argTypes := tt }) ty d ρ w Q :=
  e_mapDel cx.st (cx.getM gm) ht hx hy fun w' es' hg hs hm => h w' es' (cx.upd (u es') hg hs hm fun k hk => .inr hk)
theorem e_rangeC {t k e : TypeId} [c : MapT P t k e] {x : Operand} [gm : GetM L g es clock Lp] (cx : Cx w0 H0 H w L) (hx : ev ρ x = .map (some g))
    (h : ∀ r w', g ≠ r → Cx w0 H0 H w' (.i r g clock #[] :: L) → Q (put ρ d (.pointer (some ⟨r, 0, none⟩))) w') : ost P (.range t x) ty d ρ w Q :=
  e_range cx.st (cx.getM gm) hx fun r w' hne hlt hg _ _ hi => h r w' hne (cx.new hg hi fun k hk => by cases hk; exact hlt)
theorem e_nextC {x : Operand} {r : Nat} {seen : Array Nat} {L' : Array Nat → List Res} [gi : GetI L r g clock seen] [gm : GetM L g es clock Lp] (u : ∀ s, Upd L (.i r g clock seen) (.i r g clock s) (L' s)) (cx : Cx w0 H0 H w L) (hne : g ≠ r) (hx : ev ρ x = .pointer (some ⟨r, 0, none⟩))
    (h0 : (∀ y ∈ es.toList, seen.contains y.born = true) → Q (put ρ d (.tuple #[.bool false])) w)
    (h1 : ∀ y w' k n, y ∈ es.toList → seen.contains y.born = false → y.key = .int .i64 k → y.val = .int .i64 n → (k, n) ∈ Lp → Cx w0 H0 H w' (L' (seen.push y.born)) → Q (put ρ d (.tuple #[.bool true, .int .i64 k, .int .i64 n])) w') : ost P (.next x false) ty d ρ w Q := by
  have hi : IterM w0 H w r g clock seen := cx.ok _ gi.h
  refine e_next cx.st (cx.getM gm) hi hne hx h0 fun y w' hy hs hg st m i => ?_
  obtain ⟨p, hp, h2, h3⟩ := (cx.getM gm).ints hy
  have := h1 y w' p.1 p.2 hy hs h2 h3 hp (cx.upd (u _) hg st i fun k hk => .inr hk)
  rw [h2, h3]
  exact this
theorem a_entryC {x : Operand} {r : Nat} {seen : Array Nat} {y : MapEntry} {k n : Int} [gi : GetI L r g clock (seen.push y.born)] [gm : GetM L g es clock Lp] (cx : Cx w0 H0 H w L) (hy : y ∈ es.toList) (hk : y.key = .int .i64 k) (hn : y.val = .int .i64 n) (hx : ev ρ x = .pointer (some ⟨r, 0, none⟩)) :
    At P ty (.entry x) ρ w (.tuple #[.int .i64 k, .int .i64 n]) := by
  rw [← hk, ← hn]
  exact a_entry (cx.getM gm) (cx.ok _ gi.h) hy hx
end
theorem Cx.permM (g : Nat) {clock : Nat} {es : Array MapEntry} {Lp Lp' : List (Int × Int)} {w0 w : World} {H0 H : Mem} {L L' : List Res} [gm : GetM L g es clock Lp] [u : Upd L (.m g es clock Lp) (.m g es clock Lp') L'] (c : Cx w0 H0 H w L) (h : Lp.Perm Lp') : Cx w0 H0 H w L' :=
  c.upd u (grownBy.refl w _) c.st ((c.getM gm).of h) fun _ hk => .inr hk
/-- Some of them. -/
class SubR (L' L : List Res) : Prop where h : L'.Sublist L
instance {L : List Res} : SubR [] L := ⟨List.nil_sublist _⟩
instance {a : Res} {L' L : List Res} [c : SubR L' L] : SubR L' (a :: L) := ⟨c.h.cons a⟩
instance {a : Res} {L' L : List Res} [c : SubR L' L] : SubR (a :: L') (a :: L) := ⟨c.h.cons₂ a⟩
theorem Cx.sub {w0 w : World} {H0 H : Mem} {L L' : List Res} [s : SubR L' L] (c : Cx w0 H0 H w L) : Cx w0 H0 H w L' := ⟨c.st, fun r hr => c.ok r (s.h.subset hr), c.apart.sublist s.h⟩
end Go.Proofs.FW
