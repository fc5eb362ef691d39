/- Lemmas on the way to a statement of this seat: rules for walks, contracts of functions, and plain facts; each is proved, under the conditions that stand in it. -/
import Derived.Test.YtpoolffoalobnaaFW12
set_option linter.all false
namespace Go.Proofs.FW
open Go Go.RowKit
section
variable {P : Program} {ρ : Env} {w : World} {Q : Env → World → Prop} {d : Option Tmp} {ty : TypeId} {v : Value}
theorem e_endCell {fn : Func} {K : Value → World → Prop} {a t b : Nat} {cs : List Value} {e : TypeId} {w0 : World} {H : Mem} [c : Shp P t true cs.length] (hr : fn.results = #[.cell a t]) (hv : ρ a = .pointer (some ⟨b, 0, none⟩)) (hb : MineB w0 H w b cs e) (h : K (.agg cs.toArray) w) : endV P fn K .ret ρ w := by
  refine ⟨.agg cs.toArray, ?_, h⟩
  have hl : (loadVar t ⟨b, 0, none⟩).run P w = .ok (.agg cs.toArray) w := by
    have := run_loadAtN (P := P) (t := t) (b := b) (o := 0) (cs := cs) (w := w) (fun j v hj => by rw [Nat.zero_add]; exact hb.blk.cell hj)
    simpa [Instr.loadAt, Instr.sureAddr] using this
  simp [resV, hr, hv, asAddr, hl]
end
section
variable {α : Type} {enc : α → List Value} {sz : Nat} {H : Mem} {g : Nat}
/-- A block that has become memory, as a slice. -/
theorem re_pub {xs : List α} {n : Nat} (he : ∀ x, (enc x).length = sz) (h1 : ∀ x, ∀ c ∈ enc x, c.oneCell' = true) (hn : xs.length = n) : RE enc sz (H.pub g (xs.flatMap enc)) (.slice (some ⟨g, 0, none⟩) n n) xs := by
  subst hn
  refine ⟨flat_len he xs, fun c hc => ?_, .inr ⟨g, 0, _, rfl, Nat.le_refl _, fun j c hj => by rw [Nat.zero_add, Mem.pub_own]; exact hj⟩⟩
  obtain ⟨x, _, hx⟩ := List.mem_flatMap.1 hc
  exact h1 x c hx
theorem encP_one (p : Pair) : ∀ c ∈ encP p, c.oneCell' = true := by simp [encP, Value.oneCell']
theorem encN_one (p : Note) : ∀ c ∈ encN p, c.oneCell' = true := by simp [encN, Value.oneCell']
theorem encU_one (p : Sub) : ∀ c ∈ encU p, c.oneCell' = true := by simp [encU, Value.oneCell']
theorem encC_one (p : Chg) : ∀ c ∈ encC p, c.oneCell' = true := by simp [encC, Value.oneCell']
theorem encS_one (p : ByteArray) : ∀ c ∈ encS p, c.oneCell' = true := by simp [encS, Value.oneCell']
end
section
variable {w0 w : World} {H H' H0 : Mem} {g g' : Nat} {cs : List Value} {e : TypeId}
theorem St.back (s : St w0 H0 H w) {H1 H2 : Mem} {w' : World} (c : St w H1 H2 w') : St w0 H0 H w' := ⟨s.mem.below c.below, s.below.trans (c.below.mono s.below.size), s.ext⟩
theorem CbB.mono {P : Program} {f arg : Value} {b : Bool} (h : CbB P f H arg b) (hle : H.le H') : CbB P f H' arg b := by
  obtain ⟨k, caps, h1, h2, h3⟩ := h
  refine ⟨k, caps, h1, h2, fun w hw => (h3 w fun b o v hv => hw b o v (hle b o v hv)).mono fun e w' ⟨v, he, hv, st⟩ => ⟨v, he, hv, hw.below st.below, st.below, Mem.le_refl _, fun _ _ _ => rfl⟩⟩
theorem CbI.mono {P : Program} {f arg arg' : Value} {n : Int} (h : CbI P f H arg arg' n) (hle : H.le H') : CbI P f H' arg arg' n := by
  obtain ⟨k, caps, h1, h2, h3⟩ := h
  refine ⟨k, caps, h1, h2, fun w hw => (h3 w fun b o v hv => hw b o v (hle b o v hv)).mono fun e w' ⟨v, he, hv, st⟩ => ⟨v, he, hv, hw.below st.below, st.below, Mem.le_refl _, fun _ _ _ => rfl⟩⟩
theorem MineB.pub' (m : MineB w0 H w g cs e) (hne : g ≠ g') (cs' : List Value) : MineB w0 (H.pub g' cs') w g cs e := m.mem fun o => Mem.pub_other H cs' o hne
end
end Go.Proofs.FW
