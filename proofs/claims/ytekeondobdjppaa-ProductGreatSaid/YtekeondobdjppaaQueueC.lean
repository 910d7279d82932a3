/- A queue by its keys: Pop, Key. -/
import Derived.Test.YtekeondobdjppaaQueueB
namespace Go.Proofs.Ytekeondobdjppaa
open Go.RowKit

set_option maxRecDepth 100000 in
set_option maxHeartbeats 1000000 in
theorem pop_empty {q ab n : Nat} {iv : Value} {w : World} (h : QS w q iv ab n []) :
    Calls Try.prog 98 #[.pointer (some ⟨q, 0, none⟩)] w fun e w' => e = .returned (.tuple #[.int .i64 0, .int .i64 0, .bool false]) ∧ w = w' := by
  have H := Lib.hid h
  clear h
  go_enter Try.func98, Try.ntmps98
  go_wp2_with (go_at_call 126; refine (len_calls H.out).mono ?_; rintro e w1 ⟨rfl, rfl⟩)
  go_ret3
  exact ⟨rfl, rfl⟩

set_option maxRecDepth 100000 in
set_option maxHeartbeats 1000000 in
theorem pop_some {q ab n : Nat} {iv : Value} {l : List It} {w : World} (h : QS w q iv ab n l) (h0 : 0 < l.length) :
    Calls Try.prog 98 #[.pointer (some ⟨q, 0, none⟩)] w fun e w' => e = .returned (.tuple #[.int .i64 (itAt (popL l) (l.length - 1)).1, .int .i64 (itAt (popL l) (l.length - 1)).2, .bool true]) ∧
      ∃ iv', QS w' q iv' ab n ((popL l).take (l.length - 1)) ∧ Mod (qf q iv ab) w w' ∧ (∀ b ∈ qf q iv' ab, b ∈ qf q iv ab ∨ w.heap.size ≤ b) := by
  have ta := assert_item
  have hb : ((l.length : Int) == 0) = false := by rw [beq_eq_false_iff_ne]; omega
  have H := Lib.hid h
  clear h
  obtain ⟨x, hx⟩ : ∃ x, itAt (popL l) (l.length - 1) = x := ⟨_, rfl⟩
  rw [hx]
  have HX := Lib.hid hx
  clear hx
  go_enter Try.func98, Try.ntmps98
  go_wp2_with (go_at_call 126; refine (len_calls H.out).mono ?_; rintro e w1 ⟨rfl, rfl⟩)
  refine (line_calls q _).mono ?_
  rintro e w1 ⟨rfl, rfl⟩
  go_wp2_with fail
  refine (heapPop_calls H.out h0).mono ?_
  rintro e w2 ⟨rfl, iv2, hq, hm, hf⟩
  rw [HX.out]
  have HQ := Lib.hid hq
  have HM := Lib.hid hm
  have HF := Lib.hid hf
  clear hq hm hf
  go_wp2_with fail
  go_region
  all_goals go_wp2_with fail
  all_goals go_ret3
  all_goals
    have hM : Mod [] w2 (w2.alloc (.cells #[.int .i64 x.1, .int .i64 x.2] 201)).drew := ((Mod.refl _ _).alloc _).drew
    exact ⟨rfl, iv2, HQ.out.mod0 hM, HM.out.trans hM.nil, HF.out⟩

set_option maxRecDepth 100000 in
set_option maxHeartbeats 1000000 in
theorem key_none {q ab n : Nat} {iv : Value} {l : List It} {w : World} (h : QS w q iv ab n l) (id : Nat) (hid : id < n) (hno : ∀ x ∈ l, x.1 ≠ id) :
    Calls Try.prog 97 #[.pointer (some ⟨q, 0, none⟩), .int .i64 id] w fun e w' => e = .returned (.tuple #[.int .i64 0, .bool false]) ∧ w = w' := by
  have hm1 := method_place
  have H := Lib.hid h
  have HN := Lib.hid hno
  clear h hno
  go_enter Try.func97, Try.ntmps97
  go_wp2_with (go_at_call 114; refine (line_calls q _).mono ?_; rintro e w1 ⟨rfl, rfl⟩)
  refine (place_none H.out id hid HN.out).mono ?_
  rintro e w2 ⟨rfl, rfl⟩
  go_wp2_with fail
  go_ret2
  exact ⟨rfl, rfl⟩

set_option maxRecDepth 100000 in
set_option maxHeartbeats 1000000 in
theorem key_some {q ab n : Nat} {iv : Value} {l : List It} {w : World} (h : QS w q iv ab n l) (i : Nat) (id : Nat) (k : Int) (hi : l[i]? = some (id, k)) :
    Calls Try.prog 97 #[.pointer (some ⟨q, 0, none⟩), .int .i64 id] w fun e w' => e = .returned (.tuple #[.int .i64 k, .bool true]) ∧ w = w' := by
  have hm1 := method_place
  have hln := h.len
  have hil := (List.getElem?_eq_some_iff.1 hi).1
  have H := Lib.hid h
  obtain ⟨ats, hq, hab, hown, hat, hn⟩ := h
  obtain ⟨ib, cap, rfl⟩ := own_form hown (by omega)
  obtain ⟨cur, hib, htake, hcl, hnc, hcm, _⟩ := own_get hown
  have c0 : w.cell? ⟨q, 0, none⟩ = some (.slice (some ⟨ib, 0, none⟩) l.length cap) := hq.get rfl
  have c2 : w.cell? ⟨ib, i * 2 + 1, none⟩ = some (.int .i64 k) := by
    have := (flat_get l i _ hi).2
    rw [← htake, List.getElem?_take] at this
    split at this
    · exact hib.get this
    · cases this
  have b3 : (0 : Int) ≤ (i : Int) := by omega
  have b4 : (i : Int) < (l.length : Int) := by omega
  have HI := Lib.hid hi
  clear hq hab hown hat hib htake hcl hi hcm
  go_enter Try.func97, Try.ntmps97
  go_wp2_with (go_at_call 114; refine (line_calls q _).mono ?_; rintro e w1 ⟨rfl, rfl⟩)
  refine (place_calls H.out i (id, k) HI.out).mono ?_
  rintro e w2 ⟨rfl, rfl⟩
  go_wp2_with fail
  go_ret2
  exact ⟨rfl, rfl⟩

/-- The least one is taken; or there is none. -/
theorem queuePop_calls {w : World} {F : List Nat} {q n : Nat} {K : Nat → Option Int} (h : Qu w F q n K) :
    Calls Try.prog 98 #[.pointer (some ⟨q, 0, none⟩)] w fun e w' =>
      (e = .returned (.tuple #[.int .i64 0, .int .i64 0, .bool false]) ∧ (∀ id, K id = none) ∧ w = w') ∨
      ∃ (id : Nat) (key : Int), e = .returned (.tuple #[.int .i64 id, .int .i64 key, .bool true]) ∧ K id = some key ∧ (∀ id' k', K id' = some k' → key < k' ∨ (key = k' ∧ id ≤ id')) ∧
        ∃ F', Qu w' F' q n (delK K id) ∧ Mod F w w' ∧ ∀ b ∈ F', b ∈ F ∨ w.heap.size ≤ b := by
  obtain ⟨iv, ab, l, rfl, hq, hh, hK⟩ := h
  rcases Nat.eq_zero_or_pos l.length with h0 | h0
  · obtain rfl := List.eq_nil_of_length_eq_zero h0
    refine (pop_empty hq).mono ?_
    rintro e w' ⟨rfl, rfl⟩
    refine .inl ⟨rfl, fun id => ?_, rfl⟩
    cases hk : K id with
    | none => rfl
    | some k => exact absurd ((hK id k).1 hk) (by simp)
  · refine (pop_some hq h0).mono ?_
    rintro e w' ⟨rfl, iv', hq', hm, hf⟩
    obtain ⟨h1, h2, h3, h4⟩ := pop_heap hh h0
    have hmem0 : itAt l 0 ∈ l := List.mem_of_getElem? (itAt_some h0)
    refine .inr ⟨(itAt l 0).1, (itAt l 0).2, by rw [h4], (hK _ _).2 hmem0, fun id' k' hk' => ?_, _, ⟨iv', ab, _, rfl, hq', ?_, fun i k => ?_⟩, hm, hf⟩
    · obtain ⟨i, hi⟩ := List.getElem?_of_mem ((hK id' k').1 hk')
      have := bef_false.1 (heap_least hh i (List.getElem?_eq_some_iff.1 hi).1)
      rw [itAt_of hi] at this
      simp only at this
      omega
    · have hlt : ((popL l).take (l.length - 1)).length = l.length - 1 := by rw [List.length_take]; omega
      rw [hlt]
      intro k hk hkn
      have e : ∀ j, j < l.length - 1 → itAt ((popL l).take (l.length - 1)) j = itAt (popL l) j := fun j hj => by
        simp only [itAt, List.getD_eq_getElem?_getD, List.getElem?_take, if_pos hj]
      rw [e k hkn, e _ (by omega)]
      exact h1 k hk hkn
    · obtain ⟨ats, _, _, _, hat, _⟩ := hq
      have hsplit : popL l = (popL l).take (l.length - 1) ++ [itAt l 0] := by
        have hl : (popL l).length = l.length - 1 + 1 := by omega
        have e1 := (List.take_append_drop (l.length - 1) (popL l)).symm
        have e2 : (popL l).drop (l.length - 1) = [itAt l 0] := by
          rw [List.drop_eq_getElem_cons (by omega), List.drop_eq_nil_of_le (by omega), ← h4]
          simp [itAt, hl]
        rw [e2] at e1
        exact e1
      have hmem : (i, k) ∈ l ↔ (i, k) ∈ (popL l).take (l.length - 1) ∨ (i, k) = itAt l 0 := by
        rw [← h3.mem_iff, hsplit, List.mem_append, List.mem_singleton]
        have : (List.take (l.length - 1) (popL l) ++ [itAt l 0]).take (l.length - 1) = (popL l).take (l.length - 1) := by rw [← hsplit]
        rw [this]
      have hnd : ∀ k', ((itAt l 0).1, k') ∉ (popL l).take (l.length - 1) := by
        intro k' hc
        obtain ⟨p, hp⟩ := List.getElem?_of_mem hc
        -- two items of one id
        have hp' : (popL l)[p]? = some ((itAt l 0).1, k') := by
          rw [List.getElem?_take] at hp
          split at hp
          · exact hp
          · cases hp
        have hpl : p < l.length - 1 := by
          rw [List.getElem?_take] at hp
          split at hp
          · assumption
          · cases hp
        have hpw : l.Pairwise (fun x y => x.1 ≠ y.1) := by
          rw [List.pairwise_iff_getElem]
          intro a b ha hb hab e
          have := hat.inj (List.getElem?_eq_getElem ha) (List.getElem?_eq_getElem hb) e
          omega
        have hpw2 : (popL l).Pairwise (fun x y => x.1 ≠ y.1) := (h3.pairwise_iff (fun h e => h e.symm)).2 hpw
        rw [List.pairwise_iff_getElem] at hpw2
        have hlast : (popL l)[l.length - 1]? = some (itAt l 0) := by
          have := itAt_some (l := popL l) (k := l.length - 1) (by omega)
          rw [h4] at this; exact this
        obtain ⟨q1, q2⟩ := List.getElem?_eq_some_iff.1 hp'
        obtain ⟨q3, q4⟩ := List.getElem?_eq_some_iff.1 hlast
        have := hpw2 p (l.length - 1) q1 q3 hpl
        rw [q2, q4] at this
        exact this rfl
      simp only [delK]
      by_cases e : i = (itAt l 0).1
      · rw [if_pos e]
        subst e
        constructor
        · intro e; cases e
        · intro hc; exact absurd hc (hnd k)
      · rw [if_neg e, hK, hmem]
        constructor
        · rintro (h | h)
          · exact h
          · exact absurd (by rw [← h]) e
        · exact .inl

/-- The key of an id, if it waits. -/
theorem key_calls {w : World} {F : List Nat} {q n : Nat} {K : Nat → Option Int} (h : Qu w F q n K) (id : Nat) (a : Int) (ha : a = id) (hid : id < n) :
    Calls Try.prog 97 #[.pointer (some ⟨q, 0, none⟩), .int .i64 a] w fun e w' => e = .returned (.tuple #[.int .i64 ((K id).getD 0), .bool (K id).isSome]) ∧ w = w' := by
  subst ha
  obtain ⟨iv, ab, l, rfl, hq, hh, hK⟩ := h
  cases hk : K id with
  | none =>
    refine key_none hq id hid (fun x hx e => ?_)
    obtain ⟨x, k⟩ := x
    simp only at e
    subst e
    rw [(hK x k).2 hx] at hk
    cases hk
  | some k =>
    obtain ⟨i, hi⟩ := List.getElem?_of_mem ((hK id k).1 hk)
    exact key_some hq i id k hi
end Go.Proofs.Ytekeondobdjppaa
