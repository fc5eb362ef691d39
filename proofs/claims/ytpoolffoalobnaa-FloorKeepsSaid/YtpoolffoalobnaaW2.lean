/- Lemmas on the way to a statement of this seat: rules for walks, contracts of functions, and plain facts; each is proved, under the conditions that stand in it. -/
import Derived.Test.YtpoolffoalobnaaFacts
set_option linter.all false
namespace Go.Proofs.FW
open Go Go.Proofs Go.RowKit
attribute [local irreducible] Calls opsV ost oL codeV drawV endV operV opV quietV quietO regionV PureOp At To Fnc qst shpB fldB slcB zroB
set_option maxRecDepth 100000
set_option maxHeartbeats 8000000

theorem index106 {H : Mem} {w : World} {v f : Value} {xs : List Pair} {p : Pair → Bool} (hH : In H w) (hr : RE encP 2 H v xs) (hb : xs.length ≤ 140737488355328) (hf : ∀ x ∈ xs, CbB Try.prog f H (.agg (encP x).toArray) (p x)) :
    FncW Try.prog 106 [v, f] H w fun H' u _ => H' = H ∧ u = .int .i64 (posOf p xs) := by
  have st := St.init hH
  obtain ⟨a, cap, rfl, hc⟩ := hr.shape
  ((first | unfold Fnc | unfold FncW | unfold MutW | skip); refine enter mixed (fn := Try.f106) Try.func106 Try.ntmps106 (by kernel_rfl) (by kernel_rfl) rfl ?_)
  (repeat (first | refine go ?_ | refine goC ?_))
  refine c_loop [0, 1, 7, 8] (fun n vs w' => ∃ k : Nat, vs = [.slice a xs.length cap, f, .int .i64 xs.length, .int .i64 k] ∧ k ≤ xs.length ∧ n = xs.length - k ∧ St w H H w' ∧ ∀ (j : Nat) x, j < k → xs[j]? = some x → p x = false) ⟨_, 0, rfl, by omega, rfl, st, by simp⟩ ?_
  rintro n vs w' σ ⟨k, rfl, hk, rfl, st, hno⟩
  (repeat (first | refine go ?_ | refine goC ?_))
  refine c_dec rfl (fun hlt => ?_) (fun hge => ?_)
  · have hlt' : k < xs.length := by omega
    obtain ⟨b, o, cap', h1, _, hcell⟩ := hr.pos encP_len (by omega)
    cases h1
    obtain ⟨x, hx⟩ : ∃ x, xs[k]? = some x := ⟨_, List.getElem?_eq_getElem hlt'⟩
    have hce := hcell k x hx
    have hkk : ((k : Int)).toNat = k := by omega
    (repeat (first | refine go ?_ | refine goC ?_))
    refine r_at (a_loadR (u := x) (enc := encP) st (by rw [hkk]; exact hce) rfl) ?_
    (repeat (first | refine go ?_ | refine goC ?_))
    refine r_cbB rfl rfl st (hf x (List.mem_of_getElem? hx)) fun w2 _ st => ?_
    (repeat (first | refine go ?_ | refine goC ?_))
    refine c_cond rfl (fun hp => ?_) (fun hp => ?_)
    · (repeat (first | refine go ?_ | refine goC ?_))
      exact ⟨H, st, rfl, by rw [posOf_some hx hp hno]⟩
    · (repeat (first | refine go ?_ | refine goC ?_))
      refine oL_nil ⟨_, ?_, k + 1, rfl, by omega, rfl, st, fun j y hj hy => ?_⟩
      · omega
      · rcases Nat.lt_or_ge j k with h | h
        · exact hno j y h hy
        · have : j = k := by omega
          subst this; rw [hx] at hy; cases hy; exact hp
  · (repeat (first | refine go ?_ | refine goC ?_))
    refine ⟨H, st, rfl, ?_⟩
    rw [posOf_none fun j x hx => hno j x (by have := (List.getElem?_eq_some_iff.1 hx).1; omega) hx]
theorem index60 {H : Mem} {w : World} {v f : Value} {xs : List Note} {p : Note → Bool} (hH : In H w) (hr : RE encN 4 H v xs) (hb : xs.length ≤ 140737488355328) (hf : ∀ x ∈ xs, CbB Try.prog f H (.agg (encN x).toArray) (p x)) :
    FncW Try.prog 60 [v, f] H w fun H' u _ => H' = H ∧ u = .int .i64 (posOf p xs) := by
  have st := St.init hH
  obtain ⟨a, cap, rfl, hc⟩ := hr.shape
  ((first | unfold Fnc | unfold FncW | unfold MutW | skip); refine enter mixed (fn := Try.f60) Try.func60 Try.ntmps60 (by kernel_rfl) (by kernel_rfl) rfl ?_)
  (repeat (first | refine go ?_ | refine goC ?_))
  refine c_loop [0, 1, 7, 8] (fun n vs w' => ∃ k : Nat, vs = [.slice a xs.length cap, f, .int .i64 xs.length, .int .i64 k] ∧ k ≤ xs.length ∧ n = xs.length - k ∧ St w H H w' ∧ ∀ (j : Nat) x, j < k → xs[j]? = some x → p x = false) ⟨_, 0, rfl, by omega, rfl, st, by simp⟩ ?_
  rintro n vs w' σ ⟨k, rfl, hk, rfl, st, hno⟩
  (repeat (first | refine go ?_ | refine goC ?_))
  refine c_dec rfl (fun hlt => ?_) (fun hge => ?_)
  · have hlt' : k < xs.length := by omega
    obtain ⟨b, o, cap', h1, _, hcell⟩ := hr.pos encN_len (by omega)
    cases h1
    obtain ⟨x, hx⟩ : ∃ x, xs[k]? = some x := ⟨_, List.getElem?_eq_getElem hlt'⟩
    have hce := hcell k x hx
    have hkk : ((k : Int)).toNat = k := by omega
    (repeat (first | refine go ?_ | refine goC ?_))
    refine r_at (a_loadR (u := x) (enc := encN) st (by rw [hkk]; exact hce) rfl) ?_
    (repeat (first | refine go ?_ | refine goC ?_))
    refine r_cbB rfl rfl st (hf x (List.mem_of_getElem? hx)) fun w2 _ st => ?_
    (repeat (first | refine go ?_ | refine goC ?_))
    refine c_cond rfl (fun hp => ?_) (fun hp => ?_)
    · (repeat (first | refine go ?_ | refine goC ?_))
      exact ⟨H, st, rfl, by rw [posOf_some hx hp hno]⟩
    · (repeat (first | refine go ?_ | refine goC ?_))
      refine oL_nil ⟨_, ?_, k + 1, rfl, by omega, rfl, st, fun j y hj hy => ?_⟩
      · omega
      · rcases Nat.lt_or_ge j k with h | h
        · exact hno j y h hy
        · have : j = k := by omega
          subst this; rw [hx] at hy; cases hy; exact hp
  · (repeat (first | refine go ?_ | refine goC ?_))
    refine ⟨H, st, rfl, ?_⟩
    rw [posOf_none fun j x hx => hno j x (by have := (List.getElem?_eq_some_iff.1 hx).1; omega) hx]
theorem index52 {H : Mem} {w : World} {v f : Value} {xs : List Sub} {p : Sub → Bool} (hH : In H w) (hr : RE encU 7 H v xs) (hb : xs.length ≤ 140737488355328) (hf : ∀ x ∈ xs, CbB Try.prog f H (.agg (encU x).toArray) (p x)) :
    FncW Try.prog 52 [v, f] H w fun H' u _ => H' = H ∧ u = .int .i64 (posOf p xs) := by
  have st := St.init hH
  obtain ⟨a, cap, rfl, hc⟩ := hr.shape
  ((first | unfold Fnc | unfold FncW | unfold MutW | skip); refine enter mixed (fn := Try.f52) Try.func52 Try.ntmps52 (by kernel_rfl) (by kernel_rfl) rfl ?_)
  (repeat (first | refine go ?_ | refine goC ?_))
  refine c_loop [0, 1, 7, 8] (fun n vs w' => ∃ k : Nat, vs = [.slice a xs.length cap, f, .int .i64 xs.length, .int .i64 k] ∧ k ≤ xs.length ∧ n = xs.length - k ∧ St w H H w' ∧ ∀ (j : Nat) x, j < k → xs[j]? = some x → p x = false) ⟨_, 0, rfl, by omega, rfl, st, by simp⟩ ?_
  rintro n vs w' σ ⟨k, rfl, hk, rfl, st, hno⟩
  (repeat (first | refine go ?_ | refine goC ?_))
  refine c_dec rfl (fun hlt => ?_) (fun hge => ?_)
  · have hlt' : k < xs.length := by omega
    obtain ⟨b, o, cap', h1, _, hcell⟩ := hr.pos encU_len (by omega)
    cases h1
    obtain ⟨x, hx⟩ : ∃ x, xs[k]? = some x := ⟨_, List.getElem?_eq_getElem hlt'⟩
    have hce := hcell k x hx
    have hkk : ((k : Int)).toNat = k := by omega
    (repeat (first | refine go ?_ | refine goC ?_))
    refine r_at (a_loadR (u := x) (enc := encU) st (by rw [hkk]; exact hce) rfl) ?_
    (repeat (first | refine go ?_ | refine goC ?_))
    refine r_cbB rfl rfl st (hf x (List.mem_of_getElem? hx)) fun w2 _ st => ?_
    (repeat (first | refine go ?_ | refine goC ?_))
    refine c_cond rfl (fun hp => ?_) (fun hp => ?_)
    · (repeat (first | refine go ?_ | refine goC ?_))
      exact ⟨H, st, rfl, by rw [posOf_some hx hp hno]⟩
    · (repeat (first | refine go ?_ | refine goC ?_))
      refine oL_nil ⟨_, ?_, k + 1, rfl, by omega, rfl, st, fun j y hj hy => ?_⟩
      · omega
      · rcases Nat.lt_or_ge j k with h | h
        · exact hno j y h hy
        · have : j = k := by omega
          subst this; rw [hx] at hy; cases hy; exact hp
  · (repeat (first | refine go ?_ | refine goC ?_))
    refine ⟨H, st, rfl, ?_⟩
    rw [posOf_none fun j x hx => hno j x (by have := (List.getElem?_eq_some_iff.1 hx).1; omega) hx]
theorem index127 {H : Mem} {w : World} {v f : Value} {xs : List Chg} {p : Chg → Bool} (hH : In H w) (hr : RE encC 6 H v xs) (hb : xs.length ≤ 140737488355328) (hf : ∀ x ∈ xs, CbB Try.prog f H (.agg (encC x).toArray) (p x)) :
    FncW Try.prog 127 [v, f] H w fun H' u _ => H' = H ∧ u = .int .i64 (posOf p xs) := by
  have st := St.init hH
  obtain ⟨a, cap, rfl, hc⟩ := hr.shape
  ((first | unfold Fnc | unfold FncW | unfold MutW | skip); refine enter mixed (fn := Try.f127) Try.func127 Try.ntmps127 (by kernel_rfl) (by kernel_rfl) rfl ?_)
  (repeat (first | refine go ?_ | refine goC ?_))
  refine c_loop [0, 1, 7, 8] (fun n vs w' => ∃ k : Nat, vs = [.slice a xs.length cap, f, .int .i64 xs.length, .int .i64 k] ∧ k ≤ xs.length ∧ n = xs.length - k ∧ St w H H w' ∧ ∀ (j : Nat) x, j < k → xs[j]? = some x → p x = false) ⟨_, 0, rfl, by omega, rfl, st, by simp⟩ ?_
  rintro n vs w' σ ⟨k, rfl, hk, rfl, st, hno⟩
  (repeat (first | refine go ?_ | refine goC ?_))
  refine c_dec rfl (fun hlt => ?_) (fun hge => ?_)
  · have hlt' : k < xs.length := by omega
    obtain ⟨b, o, cap', h1, _, hcell⟩ := hr.pos encC_len (by omega)
    cases h1
    obtain ⟨x, hx⟩ : ∃ x, xs[k]? = some x := ⟨_, List.getElem?_eq_getElem hlt'⟩
    have hce := hcell k x hx
    have hkk : ((k : Int)).toNat = k := by omega
    (repeat (first | refine go ?_ | refine goC ?_))
    refine r_at (a_loadR (u := x) (enc := encC) st (by rw [hkk]; exact hce) rfl) ?_
    (repeat (first | refine go ?_ | refine goC ?_))
    refine r_cbB rfl rfl st (hf x (List.mem_of_getElem? hx)) fun w2 _ st => ?_
    (repeat (first | refine go ?_ | refine goC ?_))
    refine c_cond rfl (fun hp => ?_) (fun hp => ?_)
    · (repeat (first | refine go ?_ | refine goC ?_))
      exact ⟨H, st, rfl, by rw [posOf_some hx hp hno]⟩
    · (repeat (first | refine go ?_ | refine goC ?_))
      refine oL_nil ⟨_, ?_, k + 1, rfl, by omega, rfl, st, fun j y hj hy => ?_⟩
      · omega
      · rcases Nat.lt_or_ge j k with h | h
        · exact hno j y h hy
        · have : j = k := by omega
          subst this; rw [hx] at hy; cases hy; exact hp
  · (repeat (first | refine go ?_ | refine goC ?_))
    refine ⟨H, st, rfl, ?_⟩
    rw [posOf_none fun j x hx => hno j x (by have := (List.getElem?_eq_some_iff.1 hx).1; omega) hx]
end Go.Proofs.FW
