/- Lemmas on the way to a statement of this seat: rules for walks, contracts of functions, and plain facts; each is proved, under the conditions that stand in it. -/
import Derived.Test.YtpoolffoalobnaaFW6
set_option linter.all false
namespace Go.Proofs.FW
open Go Go.RowKit

/-- A slice in memory that nobody writes, as a row of cells. -/
structure RFl (sz : Nat) (H : Mem) (v : Value) (n : Nat) (cs : List Value) : Prop where
  len : cs.length = n * sz
  one : ∀ c ∈ cs, c.oneCell' = true
  at_ : (v = .slice none 0 0 ∧ n = 0) ∨ ∃ b o cap, v = .slice (some ⟨b, o, none⟩) n cap ∧ n ≤ cap ∧ ∀ (j : Nat) c, cs[j]? = some c → H b (o + j) = some c

section
variable {sz : Nat} {H H' : Mem} {v : Value} {n : Nat} {cs : List Value}
theorem RFl.mono (h : RFl sz H v n cs) (hle : H.le H') : RFl sz H' v n cs :=
  ⟨h.len, h.one, h.at_.imp id fun ⟨b, o, cap, h1, h2, h3⟩ => ⟨b, o, cap, h1, h2, fun j c hj => hle _ _ _ (h3 j c hj)⟩⟩
theorem RFl.nil (sz : Nat) (H : Mem) : RFl sz H (.slice none 0 0) 0 [] := ⟨by simp, by simp, .inl ⟨rfl, rfl⟩⟩
theorem RFl.shape (h : RFl sz H v n cs) : ∃ a cap, v = .slice a n cap ∧ n ≤ cap := by
  rcases h.at_ with ⟨h1, h2⟩ | ⟨b, o, cap, h1, h2, _⟩
  · exact ⟨none, 0, by rw [h1, h2], by omega⟩
  · exact ⟨_, cap, h1, h2⟩
theorem RFl.cases (h : RFl sz H v n cs) : (v = .slice none 0 0 ∧ n = 0 ∧ cs = []) ∨ ∃ b o cap, v = .slice (some ⟨b, o, none⟩) n cap ∧ n ≤ cap ∧ ∀ (j : Nat) c, cs[j]? = some c → H b (o + j) = some c := by
  refine h.at_.imp (fun ⟨h1, h2⟩ => ⟨h1, h2, List.eq_nil_of_length_eq_zero (by rw [h.len, h2]; simp)⟩) id
theorem RFl.pos (h : RFl sz H v n cs) (hn : 0 < n) : ∃ b o cap, v = .slice (some ⟨b, o, none⟩) n cap ∧ n ≤ cap ∧ ∀ (j : Nat) c, cs[j]? = some c → H b (o + j) = some c :=
  h.at_.resolve_left fun ⟨_, h2⟩ => by omega
/-- A part of it. -/
theorem RFl.part {b o cap : Nat} (h : RFl sz H (.slice (some ⟨b, o, none⟩) n cap) n cs) {l k m : Nat} (h1 : l ≤ k) (h2 : k ≤ n) (h3 : k ≤ m) :
    RFl sz H (.slice (some ⟨b, (if m = l then o else o + l * sz), none⟩) (k - l) (m - l)) (k - l) ((cs.drop (l * sz)).take ((k - l) * sz)) := by
  refine ⟨?_, fun c hc => h.one c (List.mem_of_mem_drop (List.mem_of_mem_take hc)), .inr ⟨b, _, _, rfl, by omega, fun j c hj => ?_⟩⟩
  · have e := Nat.mul_le_mul_right sz h2
    rw [List.length_take, List.length_drop, h.len, ← Nat.sub_mul]
    exact Nat.min_eq_left (Nat.mul_le_mul_right sz (by omega))
  · rcases h.at_ with ⟨hv, _⟩ | ⟨b', o', cap', hv, _, h5⟩
    · cases hv
    · cases hv
      rw [List.getElem?_take] at hj
      split at hj
      · rename_i hlt
        rw [List.getElem?_drop] at hj
        have h6 := h5 _ _ hj
        by_cases hm : m = l
        · exfalso
          have : k - l = 0 := by omega
          rw [this] at hlt
          omega
        · rw [if_neg hm, Nat.add_assoc]; exact h6
      · cases hj
end

/-- A slice of elements whose cells are known of themselves. -/
def RE {α : Type} (enc : α → List Value) (sz : Nat) (H : Mem) (v : Value) (xs : List α) : Prop := RFl sz H v xs.length (xs.flatMap enc)

theorem flat_len {α : Type} {enc : α → List Value} {sz : Nat} (he : ∀ x, (enc x).length = sz) (xs : List α) : (xs.flatMap enc).length = xs.length * sz := by
  induction xs with
  | nil => simp
  | cons x xs ih => simp [he, ih, Nat.add_mul, Nat.add_comm]
theorem flat_get {α : Type} {enc : α → List Value} {sz : Nat} (he : ∀ x, (enc x).length = sz) : ∀ (xs : List α) (i : Nat) (x : α) (j : Nat) (c : Value), xs[i]? = some x → (enc x)[j]? = some c → (xs.flatMap enc)[i * sz + j]? = some c
  | [], i, x, j, c, hx, _ => by simp at hx
  | y :: xs, 0, x, j, c, hx, hc => by
    simp at hx; subst hx
    have hj : j < (enc y).length := (List.getElem?_eq_some_iff.1 hc).1
    rw [List.flatMap_cons, Nat.zero_mul, Nat.zero_add, List.getElem?_append_left hj]; exact hc
  | y :: xs, i + 1, x, j, c, hx, hc => by
    have ih := flat_get he xs i x j c (by simpa using hx) hc
    rw [List.flatMap_cons, List.getElem?_append_right (by rw [he, Nat.add_mul]; omega), he]
    rw [show (i + 1) * sz + j - sz = i * sz + j from by rw [Nat.add_mul]; omega]
    exact ih
theorem flat_drop {α : Type} {enc : α → List Value} {sz : Nat} (he : ∀ x, (enc x).length = sz) : ∀ (xs : List α) (k : Nat), (xs.flatMap enc).drop (k * sz) = (xs.drop k).flatMap enc
  | [], k => by simp
  | x :: xs, 0 => by simp
  | x :: xs, k + 1 => by
    rw [List.flatMap_cons, Nat.add_mul, Nat.one_mul, Nat.add_comm, ← List.drop_drop, ← he x, List.drop_left, he x, flat_drop he xs k, List.drop_succ_cons]
theorem flat_take {α : Type} {enc : α → List Value} {sz : Nat} (he : ∀ x, (enc x).length = sz) : ∀ (xs : List α) (k : Nat), (xs.flatMap enc).take (k * sz) = (xs.take k).flatMap enc
  | [], k => by simp
  | x :: xs, 0 => by simp
  | x :: xs, k + 1 => by
    rw [List.flatMap_cons, Nat.add_mul, Nat.one_mul, Nat.add_comm, ← he x, List.take_append, he x, List.take_of_length_le (by rw [he]; omega), Nat.add_sub_cancel_left, flat_take he xs k, List.take_succ_cons, List.flatMap_cons]

section
variable {α : Type} {enc : α → List Value} {sz : Nat} {H H' : Mem} {v : Value} {xs : List α}
theorem RE.mono (h : RE enc sz H v xs) (hle : H.le H') : RE enc sz H' v xs := RFl.mono h hle
theorem RE.shape (h : RE enc sz H v xs) : ∃ a cap, v = .slice a xs.length cap ∧ xs.length ≤ cap := RFl.shape h
theorem RE.nil (enc : α → List Value) (sz : Nat) (H : Mem) : RE enc sz H (.slice none 0 0) [] := RFl.nil sz H
/-- Where there is an element, the slice is no nil, and each element's cells are there. -/
theorem RE.pos (he : ∀ x, (enc x).length = sz) (h : RE enc sz H v xs) (hn : 0 < xs.length) : ∃ b o cap, v = .slice (some ⟨b, o, none⟩) xs.length cap ∧ xs.length ≤ cap ∧
    ∀ (i : Nat) x, xs[i]? = some x → ∀ (j : Nat) c, (enc x)[j]? = some c → H b (o + i * sz + j) = some c := by
  obtain ⟨b, o, cap, h1, h2, h3⟩ := RFl.pos h hn
  exact ⟨b, o, cap, h1, h2, fun i x hx j c hc => by rw [Nat.add_assoc]; exact h3 _ _ (flat_get he xs i x j c hx hc)⟩
theorem RE.part {b o cap n : Nat} (he : ∀ x, (enc x).length = sz) (h : RE enc sz H (.slice (some ⟨b, o, none⟩) n cap) xs) {l k m : Nat} (h1 : l ≤ k) (h2 : k ≤ xs.length) (h3 : k ≤ m) :
    RE enc sz H (.slice (some ⟨b, (if m = l then o else o + l * sz), none⟩) (k - l) (m - l)) ((xs.drop l).take (k - l)) := by
  have hn : n = xs.length := by
    rcases h.at_ with ⟨hv, _⟩ | ⟨_, _, _, hv, _, _⟩
    · cases hv
    · cases hv; rfl
  subst hn
  have hp := RFl.part h h1 h2 h3
  unfold RE
  rw [flat_drop he, flat_take he] at hp
  rw [List.length_take, List.length_drop, Nat.min_eq_left (by omega)]
  exact hp
end

section
variable {w0 w : World} {H0 H : Mem} {v : Value} {n sz : Nat} {e : TypeId} {cs : List Value}
/-- What is one's own becomes memory that nobody writes. -/
theorem Mine.publish (m : Mine w0 H w e sz v n cs) (s : St w0 H0 H w) (h1 : ∀ c ∈ cs, c.oneCell' = true) :
    ∃ H', St w0 H0 H' w ∧ H.le H' ∧ RFl sz H' v n cs ∧ (∀ g, some g ≠ v.ownBlock → ∀ o, H' g o = H g o) := by
  rcases m.cases with ⟨rfl, rfl, rfl⟩ | ⟨g, cap, rest, rfl, hb, hnc, hcm, hl⟩
  · exact ⟨H, s, Mem.le_refl H, RFl.nil sz H, fun _ _ _ => rfl⟩
  · refine ⟨H.pub g cs, s.pub hb.blk (fun o u hu => ?_) hb.off hb.base, Mem.le_pub hb.off cs, ⟨m.len, h1, .inr ⟨g, 0, cap, rfl, hnc, fun j c hj => by rw [Nat.zero_add, Mem.pub_own]; exact hj⟩⟩, fun g' hg' o => Mem.pub_other H cs o (fun e => hg' (by rw [e]; rfl))⟩
    rw [List.getElem?_append_left (List.getElem?_eq_some_iff.1 hu).1]; exact hu
theorem MineB.publish {g : Nat} (m : MineB w0 H w g cs e) (s : St w0 H0 H w) : St w0 H0 (H.pub g cs) w ∧ H.le (H.pub g cs) ∧ (∀ g', g' ≠ g → ∀ o, H.pub g cs g' o = H g' o) :=
  ⟨s.pub m.blk (fun _ _ h => h) m.off m.base, Mem.le_pub m.off cs, fun _ hg' o => Mem.pub_other H cs o hg'⟩
end

section
variable {P : Program} {ops : Array Oper} {rest : List Oper} {ρ : Env} {w : World} {Q : Env → World → Prop} {d : Option Tmp} {ty : TypeId} {pos : String} {af : Array Edge} {v : Value}
/-- append(x, y...), y in memory that nobody writes. -/
theorem e_appendR {t e : TypeId} {sz bytes : Nat} {z : Value} [c : Slc P t e sz bytes z] {x y : Operand} {w0 : World} {H0 H : Mem} {n m : Nat} {vy : Value} {cs news : List Value} {tt : Array TypeId} (hs : St w0 H0 H w)
    (hx : ev ρ x = v) (hy : ev ρ y = vy) (ht : tt = #[t, t]) (hm : Mine w0 H w e sz v n cs) (hr : RFl sz H vy m news) (hsz : Nat.blt 0 sz = true) (h63 : n + m ≤ maxLen) (hbytes : (n + m) * bytes ≤ 140737488355328)
    (h : ∀ v' w', w.grownBy w' v.ownBlock → St w0 H0 H w' → Mine w0 H w' e sz v' (n + m) (cs ++ news) → Q (put ρ d v') w') :
    ost P (.call { callee := .builtin .append, args := #[x, y], argTypes := tt }) ty d ρ w Q := by
  rcases hr.cases with ⟨rfl, rfl, rfl⟩ | ⟨b, o, cap, rfl, _, h3⟩
  · refine r_at (a_append_nil hx hy ht hm) (h v w ⟨rfl, rfl, rfl, Nat.le_refl _, fun _ _ _ => rfl⟩ hs (by simpa using hm))
  · exact e_append hs hx hy ht hm hr.len (fun j u hu => hs.mem _ _ _ (h3 j u hu)) hr.one (Nat.le_of_ble_eq_true hsz) h63 hbytes h
end
end Go.Proofs.FW
