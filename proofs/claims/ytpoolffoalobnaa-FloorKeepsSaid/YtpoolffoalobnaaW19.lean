/- Lemmas on the way to a statement of this seat: rules for walks, contracts of functions, and plain facts; each is proved, under the conditions that stand in it. -/
import Derived.Test.YtpoolffoalobnaaW18
import Derived.Test.YtpoolffoalobnaaP3
import Derived.Test.YtpoolffoalobnaaFW20
set_option linter.all false
namespace Go.Proofs.FW
open Go Go.Proofs Go.RowKit
attribute [local irreducible] Calls opsV ost oL codeV drawV endV operV opV quietV quietO regionV PureOp At To Fnc qst shpB fldB slcB zroB
set_option maxRecDepth 100000
set_option maxHeartbeats 8000000

def encA (a : Bool × Int) : List Value := [.bool a.1, .int .i64 a.2]
theorem encA_len (a : Bool × Int) : (encA a).length = 2 := rfl
theorem encA_one (a : Bool × Int) : ∀ c ∈ encA a, c.oneCell' = true := by simp [encA, Value.oneCell']
/-- The least of those that are seen. -/
structure LeastTo (Lp : List (Int × Int)) (es : Array MapEntry) (seen : Array Nat) (m : Int) : Prop where
  le : m ≤ 2147483647
  all : ∀ y ∈ es.toList, seen.contains y.born = true → ∀ n, y.val = .int .i64 n → m ≤ n
  one : m = 2147483647 ∨ ∃ p ∈ Lp, m = p.2
theorem LeastTo.next {Lp : List (Int × Int)} {es : Array MapEntry} {seen : Array Nat} {m k n : Int} {y : MapEntry} (h : LeastTo Lp es seen m) (hy : y ∈ es.toList) (hv : y.val = .int .i64 n) (hp : (k, n) ∈ Lp) (hb : ∀ a ∈ es.toList, a.born = y.born → a = y) : LeastTo Lp es (seen.push y.born) (min m n) := by
  refine ⟨by have := h.le; omega, fun a ha hs j hj => ?_, ?_⟩
  · rw [Array.contains_push, Bool.or_eq_true] at hs
    rcases hs with hs | hs
    · have := h.all a ha hs j hj; omega
    · have := hb a ha (by simpa using hs)
      subst this
      rw [hv] at hj; cases hj; omega
  · rcases h.one with h1 | ⟨p, hp', h1⟩
    · rcases Int.le_total m n with h2 | h2
      · left; omega
      · right; exact ⟨_, hp, by show _ = n; omega⟩
    · rcases Int.le_total m n with h2 | h2
      · right; exact ⟨p, hp', by omega⟩
      · right; exact ⟨_, hp, by show _ = n; omega⟩
theorem LeastTo.fin {l : List Sub} {es : Array MapEntry} {seen : Array Nat} {m : Int} (h : LeastTo (l.map idc) es seen m) (hs : ∀ y ∈ es.toList, seen.contains y.born = true) (he : ∀ p ∈ l.map idc, ∃ e ∈ es.toList, e.key = .int .i64 p.1 ∧ e.val = .int .i64 p.2) : ofL 2147483647 l = m := by
  refine ofL_unique h.le (fun s hsl => ?_) ?_
  · obtain ⟨e, hem, _, hv⟩ := he (idc s) (List.mem_map.2 ⟨s, hsl, rfl⟩)
    exact h.all e hem (hs e hem) _ hv
  · rcases h.one with h1 | ⟨p, hp, h1⟩
    · exact .inl h1
    · obtain ⟨s, hs, rfl⟩ := List.mem_map.1 hp
      exact .inr ⟨s, hs, h1⟩

theorem unseen_lt {l : List MapEntry} {seen : Array Nat} {y : MapEntry} (hy : y ∈ l) (hs : seen.contains y.born = false) : (l.filter fun z => !(seen.push y.born).contains z.born).length < (l.filter fun z => !seen.contains z.born).length := by
  have he : (l.filter fun z => !(seen.push y.born).contains z.born) = (l.filter fun z => !seen.contains z.born).filter fun z => !decide (z.born = y.born) := by
    rw [List.filter_filter]
    apply List.filter_congr
    intro z _
    rw [Array.contains_push, Bool.not_or, Bool.and_comm]
    congr 1

  rw [he]
  refine Nat.lt_of_le_of_ne (List.length_filter_le _ _) fun e => ?_
  have h1 := List.length_filter_eq_length_iff.1 e y (List.mem_filter.2 ⟨hy, by rw [hs]; rfl⟩)
  revert h1
  simp

theorem law3 {H : Mem} {w : World} {v : Value} {xs : List (Bool × Int)} (hH : In H w) (hr : RE encA 2 H v xs) (hb : xs.length ≤ 9223372036854775807) : FncW Try.prog 3 [v] H w fun _ u _ => u = .bool true := by
  have cx := Cx.init hH
  obtain ⟨a, cap, rfl, hc⟩ := hr.shape
  ((first | unfold Fnc | unfold FncW | unfold MutW | skip); refine enter mixed (fn := Try.f3) Try.func3 Try.ntmps3 (by kernel_rfl) (by kernel_rfl) rfl ?_)
  by_cases hlen : 60 < xs.length
  · (repeat (first | refine go ?_ | refine goC ?_))
    refine r_callC Try.func10 rfl rfl rfl rfl (by assumption) (awake10 cx.st.mem) ?_; clear cx; rintro v w H1 rfl st1 cx
    (repeat (first | refine go ?_ | refine goC ?_))
    exact ⟨_, cx.st, rfl⟩
  (repeat (first | refine go ?_ | refine goC ?_))
  refine e_makeMapC (by assumption) ?_; clear cx; intro g w cx
  (repeat (first | refine go ?_ | refine goC ?_))
  refine c_loop [3, 4, 27, 28, 29] (fun n vs w' => ∃ (k : Nat) (vl : Value) (l : List Sub) (H1 : Mem) (es : Array MapEntry) (clock : Nat), vs = [vl, .map (some g), .slice a xs.length cap, .int .i64 xs.length, .int .i64 k] ∧ k ≤ xs.length ∧ n = xs.length - k ∧ Cx _ H H1 w' [.m g es clock (l.map idc)] ∧ RE encU 7 H1 vl l ∧ floorOk l = true)
    ⟨_, 0, .slice none 0 0, [], _, _, _, rfl, by omega, rfl, cx, RE.nil _ _ _, rfl⟩ ?_
  clear cx
  rintro n vs w σ ⟨k, vl, l, H1, es, clock, rfl, hk, rfl, cx, hl, hok⟩
  (repeat (first | refine go ?_ | refine goC ?_))
  refine c_dec rfl (fun hlt => ?_) (fun hge => ?_)
  · obtain ⟨b, o, cap', h1, _, hcell⟩ := hr.pos encA_len (by omega)
    cases h1
    obtain ⟨x, hx⟩ : ∃ x, xs[k]? = some x := ⟨_, List.getElem?_eq_getElem (by omega)⟩
    have hce := hcell k x hx
    have hkk : ((k : Int)).toNat = k := by omega
    rw [← hkk] at hce
    (repeat (first | refine go ?_ | refine goC ?_))
    refine r_at (a_loadCE0 (u := x) (enc := encA) cx hce rfl) ?_
    (repeat (first | refine go ?_ | refine goC ?_))
    refine e_allocC (cs := [_, _]) (by assumption) rfl ?_; clear cx; intro g6 w cx
    (repeat (first | refine go ?_ | refine goC ?_))
    refine e_storeC (vs := encA x) (by assumption) rfl rfl (encA_one x) rfl ?_; clear cx; intro w cx
    (repeat (first | refine go ?_ | refine goC ?_))
    obtain ⟨gone, num⟩ := x
    cases gone
    · have hn : 0 ≤ max 0 (min num 2147483647) ∧ max 0 (min num 2147483647) ≤ 2147483647 := by omega
      have hadd := add_spec hok (subOk_new hn)
      obtain ⟨nn, hnn⟩ : ∃ nn, max 0 (min num 2147483647) = nn := ⟨_, rfl⟩
      rw [hnn] at hadd
      change (4 ≤ l.length → addL l (subC 0 nn false) = (l, 0, 7)) ∧ (l.length < 4 → ∃ l' id, addL l (subC 0 nn false) = (l', id, 0) ∧ floorOk l' = true ∧ 1 ≤ id ∧ id ≤ 4 ∧ (∀ p ∈ l.map idc, p.1 ≠ id) ∧ (l'.map idc).Perm ((id, nn) :: l.map idc) ∧ l'.length = l.length + 1) at hadd
      (repeat (first | refine go ?_ | refine goC ?_))
      rw [hnn]
      (repeat (first | refine go ?_ | refine goC ?_))
      by_cases h4 : 4 ≤ l.length
      · have hq := hadd.1 h4
        refine r_callC Try.func12 rfl rfl rfl rfl (by assumption) (add12 (v := vl) (s := subC 0 nn false) cx.st.mem hl (by have := (floorOk_iff.1 hok).2; omega)) ?_; clear cx; intro v w H1 hR st1 cx; simp only [hq] at hR; obtain ⟨r, rfl, hr2⟩ := hR
        (repeat (first | refine go ?_ | refine goC ?_))
        refine r_at (a_lenC (by assumption) rfl rfl) ?_
        rw [List.length_map]
        clear hl
        obtain ⟨vl, rfl⟩ : ∃ vl, vl = r := ⟨_, rfl⟩
        have hl := hr2
        clear hr2
        (repeat (first | refine go ?_ | refine goC ?_))
        refine e_rangeC (by assumption) rfl ?_; clear cx; intro r w hne cx
        (repeat (first | refine go ?_ | refine goC ?_))
        refine c_loop [3, 4, 17, 27, 28, 29, 97] (fun n vs w' => ∃ (m : Int) (seen : Array Nat), vs = [vl, .map (some g), .int .i64 m, .slice (some ⟨b, o, none⟩) xs.length cap, .int .i64 xs.length, .int .i64 k, .pointer (some ⟨r, 0, none⟩)] ∧ n = (es.toList.filter fun z => !seen.contains z.born).length ∧ Cx _ H H1 w' [.i r g clock seen, .m g es clock (l.map idc)] ∧ LeastTo (l.map idc) es seen m)
          ⟨_, _, #[], rfl, rfl, cx.sub, ⟨Int.le_refl _, by simp, .inl rfl⟩⟩ ?_
        clear cx
        rintro n vs w σ2 ⟨m, seen, rfl, rfl, cx, hm⟩
        (repeat (first | refine go ?_ | refine goC ?_))
        refine e_nextC (fun _ => inferInstance) cx hne rfl (fun hall => ?_) (fun y w' k2 n2 hy hs hk2 hn2 hp cx' => ?_)
        · have hfin := hm.fin hall fun p hp => (cx.getM (g := g) inferInstance).entry hp
          obtain ⟨al, capl, rfl, _⟩ := hl.shape
          (repeat (first | refine go ?_ | refine goC ?_))
          refine r_callC Try.func14 rfl rfl rfl rfl (by assumption) (right14 cx.st.mem hl (by have := (floorOk_iff.1 hok).2; omega)) ?_; clear cx; intro v w H1 hR st1 cx; simp only [hok] at hR; obtain ⟨rfl, rfl⟩ := hR
          (repeat (first | refine go ?_ | refine goC ?_))
          refine r_at (a_lenC (by assumption) rfl rfl) ?_
          rw [List.length_map]
          (repeat (first | refine go ?_ | refine goC ?_))
          refine r_callC Try.func15 rfl rfl rfl rfl (by assumption) (of15 cx.st.mem hl (by have := (floorOk_iff.1 hok).2; omega)) ?_; clear cx; intro v w H1 hR st1 cx; simp only [hfin] at hR; obtain ⟨rfl, rfl⟩ := hR
          (repeat (first | refine go ?_ | refine goC ?_))
          refine oL_nil ⟨_, ?_, k + 1, _, l, _, es, clock, rfl, by omega, rfl, cx.sub, hl, hok⟩
          omega
        · obtain ⟨s, hsl, hse⟩ := List.mem_map.1 hp
          have h1 : s.id = k2 := congrArg Prod.fst hse
          have h2 : s.cursor = n2 := congrArg Prod.snd hse
          have hfu := findU_of hok hsl
          rw [h1] at hfu
          have hbi : ∀ z ∈ es.toList, z.born = y.born → z = y := fun z hz e => born_inj (cx.getM (g := g) inferInstance).st.2.1 hz hy e
          clear cx
          have cx := cx'
          clear cx'
          (repeat (first | refine go ?_ | refine goC ?_))
          refine r_at (a_entryC (y := y) (seen := seen) cx hy hk2 hn2 rfl) ?_
          (repeat (first | refine go ?_ | refine goC ?_))
          refine r_callC Try.func13 rfl rfl rfl rfl (by assumption) (find13 (id := k2) cx.st.mem hl (by have := (floorOk_iff.1 hok).2; omega)) ?_; clear cx; intro v w H1 hR st1 cx; simp only [hfu] at hR; obtain ⟨rfl, rfl⟩ := hR
          (repeat (first | refine go ?_ | refine goC ?_))
          refine e_allocC (cs := encU subZero) (by assumption) rfl ?_; clear cx; intro g20 w cx
          (repeat (first | refine go ?_ | refine goC ?_))
          refine e_storeC (vs := encU s) (by assumption) rfl rfl (encU_one s) rfl ?_; clear cx; intro w cx
          (repeat (first | refine go ?_ | refine goC ?_))
          refine oL_nil ⟨_, ?_, _, _, rfl, rfl, cx.sub, hm.next hy hn2 hp hbi⟩
          exact unseen_lt hy hs
      · obtain ⟨l2, id, hq, hok2, hi1, hi4, hno, hperm, _⟩ := hadd.2 (by omega)
        refine r_callC Try.func12 rfl rfl rfl rfl (by assumption) (add12 (v := vl) (s := subC 0 nn false) cx.st.mem hl (by have := (floorOk_iff.1 hok).2; omega)) ?_; clear cx; intro v w H1 hR st1 cx; simp only [hq] at hR; obtain ⟨r, rfl, hr2⟩ := hR
        have hany : (l.map idc).any (fun p => decide (p.1 = id)) = false := by rw [List.any_eq_false]; intro p hp; simpa using hno p hp
        (repeat (first | refine go ?_ | refine goC ?_))
        refine r_at (a_lenC (by assumption) rfl rfl) ?_
        rw [List.length_map]
        (repeat (first | refine go ?_ | refine goC ?_))
        refine r_lookupC (by assumption) rfl rfl fun v2 => ?_
        rw [hany]
        (repeat (first | refine go ?_ | refine goC ?_))
        refine e_mapNewC (fun _ _ => inferInstance) (by assumption) hno rfl rfl rfl ?_; clear cx; intro w es2 clock2 cx
        replace cx := cx.permM (g := g) hperm.symm
        clear hl hok hq hany hno hperm hadd
        have hl := hr2
        have hok := hok2
        obtain ⟨vl, rfl⟩ : ∃ vl, vl = r := ⟨_, rfl⟩
        clear hr2 hok2
        obtain ⟨l, rfl⟩ : ∃ l, l = l2 := ⟨_, rfl⟩
        obtain ⟨es, rfl⟩ : ∃ es, es = es2 := ⟨_, rfl⟩
        obtain ⟨clock, rfl⟩ : ∃ clock, clock = clock2 := ⟨_, rfl⟩
        (repeat (first | refine go ?_ | refine goC ?_))
        refine e_rangeC (by assumption) rfl ?_; clear cx; intro r w hne cx
        (repeat (first | refine go ?_ | refine goC ?_))
        refine c_loop [3, 4, 17, 27, 28, 29, 97] (fun n vs w' => ∃ (m : Int) (seen : Array Nat), vs = [vl, .map (some g), .int .i64 m, .slice (some ⟨b, o, none⟩) xs.length cap, .int .i64 xs.length, .int .i64 k, .pointer (some ⟨r, 0, none⟩)] ∧ n = (es.toList.filter fun z => !seen.contains z.born).length ∧ Cx _ H H1 w' [.i r g clock seen, .m g es clock (l.map idc)] ∧ LeastTo (l.map idc) es seen m)
          ⟨_, _, #[], rfl, rfl, cx.sub, ⟨Int.le_refl _, by simp, .inl rfl⟩⟩ ?_
        clear cx
        rintro n vs w σ2 ⟨m, seen, rfl, rfl, cx, hm⟩
        (repeat (first | refine go ?_ | refine goC ?_))
        refine e_nextC (fun _ => inferInstance) cx hne rfl (fun hall => ?_) (fun y w' k2 n2 hy hs hk2 hn2 hp cx' => ?_)
        · have hfin := hm.fin hall fun p hp => (cx.getM (g := g) inferInstance).entry hp
          obtain ⟨al, capl, rfl, _⟩ := hl.shape
          (repeat (first | refine go ?_ | refine goC ?_))
          refine r_callC Try.func14 rfl rfl rfl rfl (by assumption) (right14 cx.st.mem hl (by have := (floorOk_iff.1 hok).2; omega)) ?_; clear cx; intro v w H1 hR st1 cx; simp only [hok] at hR; obtain ⟨rfl, rfl⟩ := hR
          (repeat (first | refine go ?_ | refine goC ?_))
          refine r_at (a_lenC (by assumption) rfl rfl) ?_
          rw [List.length_map]
          (repeat (first | refine go ?_ | refine goC ?_))
          refine r_callC Try.func15 rfl rfl rfl rfl (by assumption) (of15 cx.st.mem hl (by have := (floorOk_iff.1 hok).2; omega)) ?_; clear cx; intro v w H1 hR st1 cx; simp only [hfin] at hR; obtain ⟨rfl, rfl⟩ := hR
          (repeat (first | refine go ?_ | refine goC ?_))
          refine oL_nil ⟨_, ?_, k + 1, _, l, _, es, clock, rfl, by omega, rfl, cx.sub, hl, hok⟩
          omega
        · obtain ⟨s, hsl, hse⟩ := List.mem_map.1 hp
          have h1 : s.id = k2 := congrArg Prod.fst hse
          have h2 : s.cursor = n2 := congrArg Prod.snd hse
          have hfu := findU_of hok hsl
          rw [h1] at hfu
          have hbi : ∀ z ∈ es.toList, z.born = y.born → z = y := fun z hz e => born_inj (cx.getM (g := g) inferInstance).st.2.1 hz hy e
          clear cx
          have cx := cx'
          clear cx'
          (repeat (first | refine go ?_ | refine goC ?_))
          refine r_at (a_entryC (y := y) (seen := seen) cx hy hk2 hn2 rfl) ?_
          (repeat (first | refine go ?_ | refine goC ?_))
          refine r_callC Try.func13 rfl rfl rfl rfl (by assumption) (find13 (id := k2) cx.st.mem hl (by have := (floorOk_iff.1 hok).2; omega)) ?_; clear cx; intro v w H1 hR st1 cx; simp only [hfu] at hR; obtain ⟨rfl, rfl⟩ := hR
          (repeat (first | refine go ?_ | refine goC ?_))
          refine e_allocC (cs := encU subZero) (by assumption) rfl ?_; clear cx; intro g20 w cx
          (repeat (first | refine go ?_ | refine goC ?_))
          refine e_storeC (vs := encU s) (by assumption) rfl rfl (encU_one s) rfl ?_; clear cx; intro w cx
          (repeat (first | refine go ?_ | refine goC ?_))
          refine oL_nil ⟨_, ?_, _, _, rfl, rfl, cx.sub, hm.next hy hn2 hp hbi⟩
          exact unseen_lt hy hs
    · obtain ⟨l2, e2, hq⟩ : ∃ l2 e2, leaveL l num = (l2, e2) := ⟨_, _, rfl⟩
      have hls := leave_spec hok num
      simp only [hq] at hls
      obtain ⟨he, hok2, hmap, hl2⟩ := hls
      cases hany : (l.map idc).any (fun p => decide (p.1 = num))
      all_goals
        rw [hany] at he
        simp only [Bool.false_eq_true, if_false, if_true] at he
        subst he
        (repeat (first | refine go ?_ | refine goC ?_))
        refine r_callC Try.func11 rfl rfl rfl rfl (by assumption) (leave11 (id := num) cx.st.mem hl (by have := (floorOk_iff.1 hok).2; omega)) ?_; clear cx; intro v w H1 hR st1 cx; simp only [hq] at hR; obtain ⟨r, rfl, hr2⟩ := hR
        (repeat (first | refine go ?_ | refine goC ?_))
        refine r_lookupC (by assumption) rfl rfl fun v2 => ?_
        rw [hany]
        (repeat (first | refine go ?_ | refine goC ?_))
        refine e_mapDelC (fun _ => inferInstance) (by assumption) rfl rfl rfl ?_; clear cx; intro w es2 cx
        rw [← hmap] at cx
        clear hl hok hq
        have hl := hr2
        have hok := hok2
        obtain ⟨vl, rfl⟩ : ∃ vl, vl = r := ⟨_, rfl⟩
        clear hr2 hok2
        clear hmap hany
        obtain ⟨l, rfl⟩ : ∃ l, l = l2 := ⟨_, rfl⟩
        obtain ⟨es, rfl⟩ : ∃ es, es = es2 := ⟨_, rfl⟩
        (repeat (first | refine go ?_ | refine goC ?_))
        refine e_rangeC (by assumption) rfl ?_; clear cx; intro r w hne cx
        (repeat (first | refine go ?_ | refine goC ?_))
        refine c_loop [3, 4, 17, 27, 28, 29, 97] (fun n vs w' => ∃ (m : Int) (seen : Array Nat), vs = [vl, .map (some g), .int .i64 m, .slice (some ⟨b, o, none⟩) xs.length cap, .int .i64 xs.length, .int .i64 k, .pointer (some ⟨r, 0, none⟩)] ∧ n = (es.toList.filter fun z => !seen.contains z.born).length ∧ Cx _ H H1 w' [.i r g clock seen, .m g es clock (l.map idc)] ∧ LeastTo (l.map idc) es seen m)
          ⟨_, _, #[], rfl, rfl, cx.sub, ⟨Int.le_refl _, by simp, .inl rfl⟩⟩ ?_
        clear cx
        rintro n vs w σ2 ⟨m, seen, rfl, rfl, cx, hm⟩
        (repeat (first | refine go ?_ | refine goC ?_))
        refine e_nextC (fun _ => inferInstance) cx hne rfl (fun hall => ?_) (fun y w' k2 n2 hy hs hk2 hn2 hp cx' => ?_)
        · have hfin := hm.fin hall fun p hp => (cx.getM (g := g) inferInstance).entry hp
          obtain ⟨al, capl, rfl, _⟩ := hl.shape
          (repeat (first | refine go ?_ | refine goC ?_))
          refine r_callC Try.func14 rfl rfl rfl rfl (by assumption) (right14 cx.st.mem hl (by have := (floorOk_iff.1 hok).2; omega)) ?_; clear cx; intro v w H1 hR st1 cx; simp only [hok] at hR; obtain ⟨rfl, rfl⟩ := hR
          (repeat (first | refine go ?_ | refine goC ?_))
          refine r_at (a_lenC (by assumption) rfl rfl) ?_
          rw [List.length_map]
          (repeat (first | refine go ?_ | refine goC ?_))
          refine r_callC Try.func15 rfl rfl rfl rfl (by assumption) (of15 cx.st.mem hl (by have := (floorOk_iff.1 hok).2; omega)) ?_; clear cx; intro v w H1 hR st1 cx; simp only [hfin] at hR; obtain ⟨rfl, rfl⟩ := hR
          (repeat (first | refine go ?_ | refine goC ?_))
          refine oL_nil ⟨_, ?_, k + 1, _, l, _, es, clock, rfl, by omega, rfl, cx.sub, hl, hok⟩
          omega
        · obtain ⟨s, hsl, hse⟩ := List.mem_map.1 hp
          have h1 : s.id = k2 := congrArg Prod.fst hse
          have h2 : s.cursor = n2 := congrArg Prod.snd hse
          have hfu := findU_of hok hsl
          rw [h1] at hfu
          have hbi : ∀ z ∈ es.toList, z.born = y.born → z = y := fun z hz e => born_inj (cx.getM (g := g) inferInstance).st.2.1 hz hy e
          clear cx
          have cx := cx'
          clear cx'
          (repeat (first | refine go ?_ | refine goC ?_))
          refine r_at (a_entryC (y := y) (seen := seen) cx hy hk2 hn2 rfl) ?_
          (repeat (first | refine go ?_ | refine goC ?_))
          refine r_callC Try.func13 rfl rfl rfl rfl (by assumption) (find13 (id := k2) cx.st.mem hl (by have := (floorOk_iff.1 hok).2; omega)) ?_; clear cx; intro v w H1 hR st1 cx; simp only [hfu] at hR; obtain ⟨rfl, rfl⟩ := hR
          (repeat (first | refine go ?_ | refine goC ?_))
          refine e_allocC (cs := encU subZero) (by assumption) rfl ?_; clear cx; intro g20 w cx
          (repeat (first | refine go ?_ | refine goC ?_))
          refine e_storeC (vs := encU s) (by assumption) rfl rfl (encU_one s) rfl ?_; clear cx; intro w cx
          (repeat (first | refine go ?_ | refine goC ?_))
          refine oL_nil ⟨_, ?_, _, _, rfl, rfl, cx.sub, hm.next hy hn2 hp hbi⟩
          exact unseen_lt hy hs
  · (repeat (first | refine go ?_ | refine goC ?_))
    refine r_callC Try.func10 rfl rfl rfl rfl (by assumption) (awake10 cx.st.mem) ?_; clear cx; rintro v w H2 rfl st1 cx
    (repeat (first | refine go ?_ | refine goC ?_))
    exact ⟨_, cx.st, rfl⟩
end Go.Proofs.FW
