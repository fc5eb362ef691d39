/- Lemmas on the way to a statement of this seat: rules for walks, contracts of functions, and plain facts; each is proved, under the conditions that stand in it. -/
import Derived.Test.YtpoolffoalobnaaW3
set_option linter.all false
namespace Go.Proofs.FW
open Go Go.Proofs Go.RowKit
attribute [local irreducible] Calls opsV ost oL codeV drawV endV operV opV quietV quietO regionV PureOp At To Fnc qst shpB fldB slcB zroB
set_option maxRecDepth 100000
set_option maxHeartbeats 8000000

/-- Where a search stops: i; what is told of it. -/
structure Stops {α : Type} (c : α → Int) (xs : List α) (i : Nat) : Prop where
  le : i ≤ xs.length
  low : ∀ x, 0 < i → xs[i - 1]? = some x → c x < 0
  high : ∀ x, xs[i]? = some x → 0 ≤ c x
def hit {α : Type} (c : α → Int) (xs : List α) (i : Nat) : Bool := match xs[i]? with | some x => decide (c x = 0) | none => false

theorem search112 {H : Mem} {w : World} {v f tv : Value} {xs : List Pair} {c : Pair → Int} (hH : In H w) (hr : RE encP 2 H v xs) (hb : xs.length ≤ 140737488355328) (hf : ∀ x ∈ xs, CbI Try.prog f H (.agg (encP x).toArray) tv (c x)) :
    FncW Try.prog 112 [v, tv, f] H w fun H' u _ => H' = H ∧ ∃ i, Stops c xs i ∧ u = .tuple #[.int .i64 i, .bool (hit c xs i)] := by
  have st := St.init hH
  obtain ⟨a, cap, rfl, hc⟩ := hr.shape
  ((first | unfold Fnc | unfold FncW | unfold MutW | skip); refine enter mixed (fn := Try.f112) Try.func112 Try.ntmps112 (by kernel_rfl) (by kernel_rfl) rfl ?_)
  (repeat (first | refine go ?_ | refine goC ?_))
  refine c_loop [0, 1, 2, 8, 9, 10] (fun n vs w' => ∃ i j : Nat, vs = [.slice a xs.length cap, tv, f, .int .i64 xs.length, .int .i64 i, .int .i64 j] ∧ i ≤ j ∧ j ≤ xs.length ∧ n = j - i ∧ St w H H w' ∧ (∀ x, 0 < i → xs[i - 1]? = some x → c x < 0) ∧ ∀ x, xs[j]? = some x → 0 ≤ c x)
    ⟨_, 0, xs.length, rfl, by omega, by omega, rfl, st, by simp, by simp⟩ ?_
  rintro n vs w' σ ⟨i, j, rfl, hij, hj, rfl, st, hlo, hhi⟩
  (repeat (first | refine go ?_ | refine goC ?_))
  refine c_dec rfl (fun hlt => ?_) (fun hge => ?_)
  · obtain ⟨b, o, cap', h1, _, hcell⟩ := hr.pos encP_len (by omega)
    cases h1
    (repeat (first | refine go ?_ | refine goC ?_))
    obtain ⟨m, hm, hm1, hm2⟩ : ∃ m : Nat, ((i : Int) + (j : Int)) / 2 = m ∧ i ≤ m ∧ m < j := ⟨(i + j) / 2, by omega, by omega, by omega⟩
    rw [hm]
    have hm3 : ((m : Int)).toNat = m := by omega
    (repeat (first | refine go ?_ | refine goC ?_))
    obtain ⟨x, hx⟩ : ∃ x, xs[m]? = some x := ⟨_, List.getElem?_eq_getElem (by omega)⟩
    have hce := hcell m x hx
    refine r_at (a_loadR (u := x) (enc := encP) st (by rw [hm3]; exact hce) rfl) ?_
    (repeat (first | refine go ?_ | refine goC ?_))
    refine r_cbI rfl rfl rfl st (hf x (List.mem_of_getElem? hx)) fun w2 _ st => ?_
    (repeat (first | refine go ?_ | refine goC ?_))
    refine c_dec rfl (fun hneg => ?_) (fun hpos => ?_)
    · (repeat (first | refine go ?_ | refine goC ?_))
      refine oL_nil ⟨_, ?_, m + 1, j, rfl, by omega, by omega, rfl, st, fun y _ hy => ?_, hhi⟩
      · omega
      · rw [Nat.add_sub_cancel, hx] at hy; cases hy; exact hneg
    · (repeat (first | refine go ?_ | refine goC ?_))
      refine oL_nil ⟨_, ?_, i, m, rfl, by omega, by omega, rfl, st, hlo, fun y hy => ?_⟩
      · omega
      · rw [hx] at hy; cases hy; omega
  · obtain rfl : i = j := by omega
    by_cases hn : i < xs.length
    · obtain ⟨b, o, cap', h1, _, hcell⟩ := hr.pos encP_len (by omega)
      cases h1
      (repeat (first | refine go ?_ | refine goC ?_))
      obtain ⟨x, hx⟩ : ∃ x, xs[i]? = some x := ⟨_, List.getElem?_eq_getElem hn⟩
      have hce := hcell i x hx
      have hm3 : ((i : Int)).toNat = i := by omega
      refine r_at (a_loadR (u := x) (enc := encP) st (by rw [hm3]; exact hce) rfl) ?_
      (repeat (first | refine go ?_ | refine goC ?_))
      refine r_cbI rfl rfl rfl st (hf x (List.mem_of_getElem? hx)) fun w2 _ st => ?_
      (repeat (first | refine go ?_ | refine goC ?_))
      exact ⟨H, st, rfl, i, ⟨by omega, hlo, hhi⟩, by unfold hit; rw [hx]⟩
    · (repeat (first | refine go ?_ | refine goC ?_))
      refine ⟨H, st, rfl, i, ⟨by omega, hlo, hhi⟩, ?_⟩
      unfold hit; rw [List.getElem?_eq_none (by omega)]
theorem search117 {H : Mem} {w : World} {v f tv : Value} {xs : List Note} {c : Note → Int} (hH : In H w) (hr : RE encN 4 H v xs) (hb : xs.length ≤ 140737488355328) (hf : ∀ x ∈ xs, CbI Try.prog f H (.agg (encN x).toArray) tv (c x)) :
    FncW Try.prog 117 [v, tv, f] H w fun H' u _ => H' = H ∧ ∃ i, Stops c xs i ∧ u = .tuple #[.int .i64 i, .bool (hit c xs i)] := by
  have st := St.init hH
  obtain ⟨a, cap, rfl, hc⟩ := hr.shape
  ((first | unfold Fnc | unfold FncW | unfold MutW | skip); refine enter mixed (fn := Try.f117) Try.func117 Try.ntmps117 (by kernel_rfl) (by kernel_rfl) rfl ?_)
  (repeat (first | refine go ?_ | refine goC ?_))
  refine c_loop [0, 1, 2, 8, 9, 10] (fun n vs w' => ∃ i j : Nat, vs = [.slice a xs.length cap, tv, f, .int .i64 xs.length, .int .i64 i, .int .i64 j] ∧ i ≤ j ∧ j ≤ xs.length ∧ n = j - i ∧ St w H H w' ∧ (∀ x, 0 < i → xs[i - 1]? = some x → c x < 0) ∧ ∀ x, xs[j]? = some x → 0 ≤ c x)
    ⟨_, 0, xs.length, rfl, by omega, by omega, rfl, st, by simp, by simp⟩ ?_
  rintro n vs w' σ ⟨i, j, rfl, hij, hj, rfl, st, hlo, hhi⟩
  (repeat (first | refine go ?_ | refine goC ?_))
  refine c_dec rfl (fun hlt => ?_) (fun hge => ?_)
  · obtain ⟨b, o, cap', h1, _, hcell⟩ := hr.pos encN_len (by omega)
    cases h1
    (repeat (first | refine go ?_ | refine goC ?_))
    obtain ⟨m, hm, hm1, hm2⟩ : ∃ m : Nat, ((i : Int) + (j : Int)) / 2 = m ∧ i ≤ m ∧ m < j := ⟨(i + j) / 2, by omega, by omega, by omega⟩
    rw [hm]
    have hm3 : ((m : Int)).toNat = m := by omega
    (repeat (first | refine go ?_ | refine goC ?_))
    obtain ⟨x, hx⟩ : ∃ x, xs[m]? = some x := ⟨_, List.getElem?_eq_getElem (by omega)⟩
    have hce := hcell m x hx
    refine r_at (a_loadR (u := x) (enc := encN) st (by rw [hm3]; exact hce) rfl) ?_
    (repeat (first | refine go ?_ | refine goC ?_))
    refine r_cbI rfl rfl rfl st (hf x (List.mem_of_getElem? hx)) fun w2 _ st => ?_
    (repeat (first | refine go ?_ | refine goC ?_))
    refine c_dec rfl (fun hneg => ?_) (fun hpos => ?_)
    · (repeat (first | refine go ?_ | refine goC ?_))
      refine oL_nil ⟨_, ?_, m + 1, j, rfl, by omega, by omega, rfl, st, fun y _ hy => ?_, hhi⟩
      · omega
      · rw [Nat.add_sub_cancel, hx] at hy; cases hy; exact hneg
    · (repeat (first | refine go ?_ | refine goC ?_))
      refine oL_nil ⟨_, ?_, i, m, rfl, by omega, by omega, rfl, st, hlo, fun y hy => ?_⟩
      · omega
      · rw [hx] at hy; cases hy; omega
  · obtain rfl : i = j := by omega
    by_cases hn : i < xs.length
    · obtain ⟨b, o, cap', h1, _, hcell⟩ := hr.pos encN_len (by omega)
      cases h1
      (repeat (first | refine go ?_ | refine goC ?_))
      obtain ⟨x, hx⟩ : ∃ x, xs[i]? = some x := ⟨_, List.getElem?_eq_getElem hn⟩
      have hce := hcell i x hx
      have hm3 : ((i : Int)).toNat = i := by omega
      refine r_at (a_loadR (u := x) (enc := encN) st (by rw [hm3]; exact hce) rfl) ?_
      (repeat (first | refine go ?_ | refine goC ?_))
      refine r_cbI rfl rfl rfl st (hf x (List.mem_of_getElem? hx)) fun w2 _ st => ?_
      (repeat (first | refine go ?_ | refine goC ?_))
      exact ⟨H, st, rfl, i, ⟨by omega, hlo, hhi⟩, by unfold hit; rw [hx]⟩
    · (repeat (first | refine go ?_ | refine goC ?_))
      refine ⟨H, st, rfl, i, ⟨by omega, hlo, hhi⟩, ?_⟩
      unfold hit; rw [List.getElem?_eq_none (by omega)]
theorem search56 {H : Mem} {w : World} {v f tv : Value} {xs : List Sub} {c : Sub → Int} (hH : In H w) (hr : RE encU 7 H v xs) (hb : xs.length ≤ 140737488355328) (hf : ∀ x ∈ xs, CbI Try.prog f H (.agg (encU x).toArray) tv (c x)) :
    FncW Try.prog 56 [v, tv, f] H w fun H' u _ => H' = H ∧ ∃ i, Stops c xs i ∧ u = .tuple #[.int .i64 i, .bool (hit c xs i)] := by
  have st := St.init hH
  obtain ⟨a, cap, rfl, hc⟩ := hr.shape
  ((first | unfold Fnc | unfold FncW | unfold MutW | skip); refine enter mixed (fn := Try.f56) Try.func56 Try.ntmps56 (by kernel_rfl) (by kernel_rfl) rfl ?_)
  (repeat (first | refine go ?_ | refine goC ?_))
  refine c_loop [0, 1, 2, 8, 9, 10] (fun n vs w' => ∃ i j : Nat, vs = [.slice a xs.length cap, tv, f, .int .i64 xs.length, .int .i64 i, .int .i64 j] ∧ i ≤ j ∧ j ≤ xs.length ∧ n = j - i ∧ St w H H w' ∧ (∀ x, 0 < i → xs[i - 1]? = some x → c x < 0) ∧ ∀ x, xs[j]? = some x → 0 ≤ c x)
    ⟨_, 0, xs.length, rfl, by omega, by omega, rfl, st, by simp, by simp⟩ ?_
  rintro n vs w' σ ⟨i, j, rfl, hij, hj, rfl, st, hlo, hhi⟩
  (repeat (first | refine go ?_ | refine goC ?_))
  refine c_dec rfl (fun hlt => ?_) (fun hge => ?_)
  · obtain ⟨b, o, cap', h1, _, hcell⟩ := hr.pos encU_len (by omega)
    cases h1
    (repeat (first | refine go ?_ | refine goC ?_))
    obtain ⟨m, hm, hm1, hm2⟩ : ∃ m : Nat, ((i : Int) + (j : Int)) / 2 = m ∧ i ≤ m ∧ m < j := ⟨(i + j) / 2, by omega, by omega, by omega⟩
    rw [hm]
    have hm3 : ((m : Int)).toNat = m := by omega
    (repeat (first | refine go ?_ | refine goC ?_))
    obtain ⟨x, hx⟩ : ∃ x, xs[m]? = some x := ⟨_, List.getElem?_eq_getElem (by omega)⟩
    have hce := hcell m x hx
    refine r_at (a_loadR (u := x) (enc := encU) st (by rw [hm3]; exact hce) rfl) ?_
    (repeat (first | refine go ?_ | refine goC ?_))
    refine r_cbI rfl rfl rfl st (hf x (List.mem_of_getElem? hx)) fun w2 _ st => ?_
    (repeat (first | refine go ?_ | refine goC ?_))
    refine c_dec rfl (fun hneg => ?_) (fun hpos => ?_)
    · (repeat (first | refine go ?_ | refine goC ?_))
      refine oL_nil ⟨_, ?_, m + 1, j, rfl, by omega, by omega, rfl, st, fun y _ hy => ?_, hhi⟩
      · omega
      · rw [Nat.add_sub_cancel, hx] at hy; cases hy; exact hneg
    · (repeat (first | refine go ?_ | refine goC ?_))
      refine oL_nil ⟨_, ?_, i, m, rfl, by omega, by omega, rfl, st, hlo, fun y hy => ?_⟩
      · omega
      · rw [hx] at hy; cases hy; omega
  · obtain rfl : i = j := by omega
    by_cases hn : i < xs.length
    · obtain ⟨b, o, cap', h1, _, hcell⟩ := hr.pos encU_len (by omega)
      cases h1
      (repeat (first | refine go ?_ | refine goC ?_))
      obtain ⟨x, hx⟩ : ∃ x, xs[i]? = some x := ⟨_, List.getElem?_eq_getElem hn⟩
      have hce := hcell i x hx
      have hm3 : ((i : Int)).toNat = i := by omega
      refine r_at (a_loadR (u := x) (enc := encU) st (by rw [hm3]; exact hce) rfl) ?_
      (repeat (first | refine go ?_ | refine goC ?_))
      refine r_cbI rfl rfl rfl st (hf x (List.mem_of_getElem? hx)) fun w2 _ st => ?_
      (repeat (first | refine go ?_ | refine goC ?_))
      exact ⟨H, st, rfl, i, ⟨by omega, hlo, hhi⟩, by unfold hit; rw [hx]⟩
    · (repeat (first | refine go ?_ | refine goC ?_))
      refine ⟨H, st, rfl, i, ⟨by omega, hlo, hhi⟩, ?_⟩
      unfold hit; rw [List.getElem?_eq_none (by omega)]
end Go.Proofs.FW
