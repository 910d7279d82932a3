/- The heap of a queue, in plain Lean: what container/heap's up and down do to a list of items. -/
namespace Go.Proofs.Ytekeondobdjppaa

abbrev It := Nat × Int
def itAt (l : List It) (k : Nat) : It := l.getD k (0, 0)
def bef (x y : It) : Bool := if x.2 = y.2 then decide ((x.1 : Int) < y.1) else decide (x.2 < y.2)
theorem bef_true {x y : It} : bef x y = true ↔ x.2 < y.2 ∨ (x.2 = y.2 ∧ x.1 < y.1) := by
  unfold bef; split <;> simp_all <;> omega
theorem bef_false {x y : It} : bef x y = false ↔ ¬ (x.2 < y.2 ∨ (x.2 = y.2 ∧ x.1 < y.1)) := by
  rw [← bef_true]; simp

def swapL (l : List It) (i j : Nat) : List It := (l.set i (itAt l j)).set j (itAt l i)
theorem swapL_length (l : List It) (i j : Nat) : (swapL l i j).length = l.length := by simp [swapL]
theorem itAt_some {l : List It} {k : Nat} (h : k < l.length) : l[k]? = some (itAt l k) := by simp [itAt, List.getD_eq_getElem?_getD, h]
theorem itAt_of {l : List It} {k : Nat} {x : It} (h : l[k]? = some x) : itAt l k = x := by simp [itAt, List.getD_eq_getElem?_getD, h]
theorem itAt_set (l : List It) (i k : Nat) (x : It) (hk : k < l.length) : itAt (l.set i x) k = if i = k then x else itAt l k := by
  simp only [itAt, List.getD_eq_getElem?_getD, List.getElem?_set]
  split
  · rename_i h; subst h; simp [hk]
  · rfl
theorem itAt_swap (l : List It) (i j k : Nat) (hk : k < l.length) : itAt (swapL l i j) k = if j = k then itAt l i else if i = k then itAt l j else itAt l k := by
  unfold swapL
  rw [itAt_set _ _ _ _ (by simpa using hk)]
  split
  · rfl
  · rw [itAt_set _ _ _ _ hk]
theorem swapL_self (l : List It) (i : Nat) (h : i < l.length) : swapL l i i = l := by
  apply List.ext_getElem? ; intro k
  unfold swapL
  by_cases hk : i = k
  · subst hk; simp [itAt, h]
  · simp [hk]
theorem swapL_perm (l : List It) (i j : Nat) (hi : i < l.length) (hj : j < l.length) : List.Perm (swapL l i j) l := by
  rw [List.perm_iff_count]
  intro a
  unfold swapL
  rw [List.count_set (by simpa using hj), List.count_set hi]
  have e1 : itAt l j = l[j] := by simp [itAt, hj]
  have e2 : itAt l i = l[i] := by simp [itAt, hi]
  have e3 : (l.set i (itAt l j))[j]'(by simpa using hj) = if i = j then l[j] else l[j] := by
    rw [List.getElem_set]; split
    · simp [e1]
    · rfl
  have e4 : (l.set i (itAt l j))[j]'(by simpa using hj) = l[j] := by rw [e3]; split <;> rfl
  rw [e4, e1, e2]
  have hc1 : l[i] = a → 0 < List.count a l := fun h => List.count_pos_iff.2 (h ▸ List.getElem_mem hi)
  by_cases h1 : l[i] = a <;> by_cases h2 : l[j] = a <;> simp [h1, h2] <;> (try have := hc1 h1) <;> omega

/-- A heap, as far as n. -/
def HeapAt (l : List It) (n : Nat) : Prop := ∀ k, 0 < k → k < n → bef (itAt l k) (itAt l ((k - 1) / 2)) = false

def upL : Nat → List It → Nat → List It
  | 0, l, _ => l
  | f + 1, l, j => if j = 0 then l else if bef (itAt l j) (itAt l ((j - 1) / 2)) = true then upL f (swapL l ((j - 1) / 2) j) ((j - 1) / 2) else l

theorem upL_heap (n : Nat) : ∀ (f : Nat) (l : List It) (j : Nat), n ≤ l.length → j < n → j ≤ f →
    (∀ k, 0 < k → k < n → k ≠ j → bef (itAt l k) (itAt l ((k - 1) / 2)) = false) →
    (∀ k, 0 < k → k < n → (k - 1) / 2 = j → 0 < j → bef (itAt l k) (itAt l ((j - 1) / 2)) = false) →
    HeapAt (upL f l j) n ∧ (upL f l j).length = l.length ∧ List.Perm (upL f l j) l := by
  intro f
  induction f with
  | zero =>
    intro l j hl hj hf h1 _
    obtain rfl : j = 0 := by omega
    exact ⟨fun k hk hkn => h1 k hk hkn (by omega), rfl, List.Perm.refl _⟩
  | succ f ih =>
    intro l j hl hj hf h1 h2
    unfold upL
    by_cases hj0 : j = 0
    · subst hj0
      rw [if_pos rfl]
      exact ⟨fun k hk hkn => h1 k hk hkn (by omega), rfl, List.Perm.refl _⟩
    · rw [if_neg hj0]
      by_cases hb : bef (itAt l j) (itAt l ((j - 1) / 2)) = true
      · rw [if_pos hb]
        have hp : (j - 1) / 2 < j := by omega
        have hb' := bef_true.1 hb
        have key : ∀ k, k < n → itAt (swapL l ((j - 1) / 2) j) k = if j = k then itAt l ((j - 1) / 2) else if (j - 1) / 2 = k then itAt l j else itAt l k := fun k hk => itAt_swap l _ _ k (by omega)
        obtain ⟨a, b, c⟩ := ih (swapL l ((j - 1) / 2) j) ((j - 1) / 2) (by rw [swapL_length]; exact hl) (by omega) (by omega)
          (by
            intro k hk hkn hkp
            rw [key k hkn, key ((k - 1) / 2) (by omega)]
            by_cases e1 : j = k
            · subst e1
              rw [if_pos rfl, if_neg (by omega), if_pos rfl]
              exact bef_false.2 (by omega)
            · rw [if_neg e1, if_neg (fun e => hkp e.symm)]
              by_cases e2 : j = (k - 1) / 2
              · rw [if_pos e2]; exact h2 k hk hkn e2.symm (by omega)
              · rw [if_neg e2]
                by_cases e3 : (j - 1) / 2 = (k - 1) / 2
                · rw [if_pos e3]
                  have := bef_false.1 (h1 k hk hkn (fun e => e1 e.symm))
                  rw [← e3] at this
                  exact bef_false.2 (by omega)
                · rw [if_neg e3]; exact h1 k hk hkn (fun e => e1 e.symm))
          (by
            intro k hk hkn e hp0
            rw [key k hkn, key (((j - 1) / 2 - 1) / 2) (by omega)]
            rw [if_neg (show ¬ j = ((j - 1) / 2 - 1) / 2 by omega), if_neg (show ¬ (j - 1) / 2 = ((j - 1) / 2 - 1) / 2 by omega)]
            have h3 := bef_false.1 (h1 ((j - 1) / 2) hp0 (by omega) (by omega))
            by_cases e1 : j = k
            · rw [if_pos e1]; exact bef_false.2 h3
            · rw [if_neg e1, if_neg (by omega)]
              have h4 := bef_false.1 (h1 k hk hkn (fun e => e1 e.symm))
              rw [e] at h4
              exact bef_false.2 (by omega))
        exact ⟨a, by rw [b, swapL_length], c.trans (swapL_perm l _ _ (by omega) (by omega))⟩
      · rw [if_neg hb]
        refine ⟨fun k hk hkn => ?_, rfl, List.Perm.refl _⟩
        by_cases e : k = j
        · subst e; simpa using hb
        · exact h1 k hk hkn e

def lesser (l : List It) (i n : Nat) : Nat := if 2 * i + 2 < n ∧ bef (itAt l (2 * i + 2)) (itAt l (2 * i + 1)) = true then 2 * i + 2 else 2 * i + 1
def downL : Nat → List It → Nat → Nat → List It × Nat
  | 0, l, i, _ => (l, i)
  | f + 1, l, i, n => if 2 * i + 1 < n then (if bef (itAt l (lesser l i n)) (itAt l i) = true then downL f (swapL l i (lesser l i n)) (lesser l i n) n else (l, i)) else (l, i)

theorem lesser_lt (l : List It) (i n : Nat) (h : 2 * i + 1 < n) : lesser l i n < n ∧ i < lesser l i n ∧ (lesser l i n - 1) / 2 = i := by
  unfold lesser; split <;> omega
theorem lesser_le (l : List It) (i n : Nat) (k : Nat) (hk : 0 < k) (hkn : k < n) (he : (k - 1) / 2 = i) : bef (itAt l k) (itAt l (lesser l i n)) = false := by
  have hc : k = 2 * i + 1 ∨ k = 2 * i + 2 := by omega
  unfold lesser
  split
  · rename_i h
    have h2 := bef_true.1 h.2
    rcases hc with rfl | rfl <;> exact bef_false.2 (by omega)
  · rename_i h
    rcases hc with rfl | rfl
    · exact bef_false.2 (by omega)
    · have : bef (itAt l (2 * i + 2)) (itAt l (2 * i + 1)) = false := by
        cases hb : bef (itAt l (2 * i + 2)) (itAt l (2 * i + 1)) with
        | true => exact absurd ⟨hkn, hb⟩ h
        | false => rfl
      exact this

theorem downL_heap (n : Nat) : ∀ (f : Nat) (l : List It) (i : Nat), n ≤ l.length → n ≤ i + f →
    (∀ k, 0 < k → k < n → (k - 1) / 2 ≠ i → bef (itAt l k) (itAt l ((k - 1) / 2)) = false) →
    (∀ k, 0 < k → k < n → (k - 1) / 2 = i → 0 < i → bef (itAt l k) (itAt l ((i - 1) / 2)) = false) →
    HeapAt (downL f l i n).1 n ∧ (downL f l i n).1.length = l.length ∧ List.Perm (downL f l i n).1 l ∧ (∀ k, n ≤ k → k < l.length → itAt (downL f l i n).1 k = itAt l k) := by
  intro f
  induction f with
  | zero =>
    intro l i hl hf h1 _
    unfold downL
    exact ⟨fun k hk hkn => h1 k hk hkn (by omega), rfl, List.Perm.refl _, fun k _ _ => rfl⟩
  | succ f ih =>
    intro l i hl hf h1 h2
    unfold downL
    by_cases hc : 2 * i + 1 < n
    · rw [if_pos hc]
      obtain ⟨g1, g2, g3⟩ := lesser_lt l i n hc
      have hle := lesser_le l i n
      generalize lesser l i n = j at *
      by_cases hb : bef (itAt l j) (itAt l i) = true
      · rw [if_pos hb]
        have hb' := bef_true.1 hb
        have key : ∀ k, k < l.length → itAt (swapL l i j) k = if j = k then itAt l i else if i = k then itAt l j else itAt l k := fun k hk => itAt_swap l _ _ k hk
        obtain ⟨a, b, c, d⟩ := ih (swapL l i j) j (by rw [swapL_length]; exact hl) (by omega)
          (by
            intro k hk hkn hkp
            rw [key k (by omega), key ((k - 1) / 2) (by omega)]
            rw [if_neg (show ¬ j = (k - 1) / 2 from fun e => hkp e.symm)]
            by_cases e1 : j = k
            · subst e1
              rw [if_pos rfl, if_pos g3.symm]
              exact bef_false.2 (by omega)
            · rw [if_neg e1]
              by_cases e2 : i = k
              · rw [if_pos e2, if_neg (by omega)]
                subst e2
                exact h2 j (by omega) g1 g3 hk
              · rw [if_neg e2]
                by_cases e3 : i = (k - 1) / 2
                · rw [if_pos e3]; exact hle k hk hkn e3.symm
                · rw [if_neg e3]; exact h1 k hk hkn (fun e => e3 e.symm))
          (by
            intro k hk hkn e _
            rw [key k (by omega), key ((j - 1) / 2) (by omega)]
            rw [if_neg (show ¬ j = k by omega), if_neg (show ¬ i = k by omega), if_neg (show ¬ j = (j - 1) / 2 by omega), if_pos g3.symm]
            have h3 := h1 k hk hkn (by omega)
            rw [e] at h3
            exact h3)
        refine ⟨a, by rw [b, swapL_length], c.trans (swapL_perm l _ _ (by omega) (by omega)), fun k hk hkl => ?_⟩
        rw [d k hk (by rw [swapL_length]; exact hkl), key k hkl, if_neg (by omega), if_neg (by omega)]
      · rw [if_neg hb]
        refine ⟨fun k hk hkn => ?_, rfl, List.Perm.refl _, fun k _ _ => rfl⟩
        show bef (itAt l k) (itAt l ((k - 1) / 2)) = false
        by_cases e : (k - 1) / 2 = i
        · have h3 := bef_false.1 (hle k hk hkn e)
          have h4 : bef (itAt l j) (itAt l i) = false := by simpa using hb
          have h4 := bef_false.1 h4
          rw [e]
          exact bef_false.2 (by omega)
        · exact h1 k hk hkn e
    · rw [if_neg hc]
      refine ⟨fun k hk hkn => h1 k hk hkn (by omega), rfl, List.Perm.refl _, fun k _ _ => rfl⟩

theorem heap_least {l : List It} {n : Nat} (h : HeapAt l n) : ∀ k, k < n → bef (itAt l k) (itAt l 0) = false := by
  intro k
  induction k using Nat.strongRecOn with
  | _ k ih =>
    intro hk
    by_cases h0 : k = 0
    · subst h0; exact bef_false.2 (by omega)
    · have h1 := bef_false.1 (h k (by omega) hk)
      have h2 := bef_false.1 (ih ((k - 1) / 2) (by omega) (by omega))
      exact bef_false.2 (by omega)

theorem push_heap {l : List It} (h : HeapAt l l.length) (x : It) : HeapAt (upL l.length (l ++ [x]) l.length) (l.length + 1) ∧ (upL l.length (l ++ [x]) l.length).length = l.length + 1 ∧ List.Perm (upL l.length (l ++ [x]) l.length) (l ++ [x]) := by
  have e : ∀ k, k < l.length → itAt (l ++ [x]) k = itAt l k := fun k hk => by simp [itAt, List.getD_eq_getElem?_getD, List.getElem?_append_left hk]
  obtain ⟨a, b, c⟩ := upL_heap (l.length + 1) l.length (l ++ [x]) l.length (by simp) (by omega) (Nat.le_refl _)
    (fun k hk hkn hne => by rw [e k (by omega), e _ (by omega)]; exact h k hk (by omega))
    (fun k hk hkn he h0 => by omega)
  exact ⟨a, by simpa using b, c⟩

/-- A key that is made less, at p: down does nothing, up makes it a heap again. -/
theorem fix_heap {l : List It} (h : HeapAt l l.length) (p : Nat) (hp : p < l.length) (x : It) (hx : bef (itAt l p) x = false) :
    downL l.length (l.set p x) p l.length = (l.set p x, p) ∧ HeapAt (upL p (l.set p x) p) l.length ∧ (upL p (l.set p x) p).length = l.length ∧ List.Perm (upL p (l.set p x) p) (l.set p x) := by
  have hx' := bef_false.1 hx
  have e : ∀ k, k < l.length → itAt (l.set p x) k = if p = k then x else itAt l k := fun k hk => itAt_set l p k x hk
  have ch : ∀ k, 0 < k → k < l.length → (k - 1) / 2 = p → bef (itAt (l.set p x) k) (itAt (l.set p x) p) = false := fun k hk hkn he => by
    rw [e k hkn, e p hp, if_neg (by omega), if_pos rfl]
    have := bef_false.1 (h k hk hkn)
    rw [he] at this
    exact bef_false.2 (by omega)
  refine ⟨?_, ?_⟩
  · cases hl : l.length with
    | zero => omega
    | succ f =>
      unfold downL
      split
      · rename_i hc
        rw [← hl] at hc ⊢
        obtain ⟨g1, g2, g3⟩ := lesser_lt (l.set p x) p l.length hc
        rw [if_neg (by rw [ch _ (by omega) g1 g3]; simp)]
      · rfl
  · obtain ⟨a, b, c⟩ := upL_heap l.length p (l.set p x) p (by simp) hp (Nat.le_refl _)
      (fun k hk hkn hne => by
        by_cases hpk : (k - 1) / 2 = p
        · rw [hpk]; exact ch k hk hkn hpk
        · rw [e k hkn, e _ (by omega), if_neg (fun e => hne e.symm), if_neg (fun e => hpk e.symm)]; exact h k hk hkn)
      (fun k hk hkn he h0 => by
        rw [e k hkn, e _ (by omega), if_neg (by omega), if_neg (by omega)]
        have h1 := bef_false.1 (h k hk hkn)
        have h2 := bef_false.1 (h p h0 hp)
        rw [he] at h1
        exact bef_false.2 (by omega))
    exact ⟨a, by simpa using b, c⟩

def popL (l : List It) : List It := (downL (l.length - 1) (swapL l 0 (l.length - 1)) 0 (l.length - 1)).1
theorem pop_heap {l : List It} (h : HeapAt l l.length) (h0 : 0 < l.length) : HeapAt (popL l) (l.length - 1) ∧ (popL l).length = l.length ∧ List.Perm (popL l) l ∧ itAt (popL l) (l.length - 1) = itAt l 0 := by
  have key : ∀ k, k < l.length → itAt (swapL l 0 (l.length - 1)) k = if l.length - 1 = k then itAt l 0 else if 0 = k then itAt l (l.length - 1) else itAt l k := fun k hk => itAt_swap l _ _ k hk
  obtain ⟨a, b, c, d⟩ := downL_heap (l.length - 1) (l.length - 1) (swapL l 0 (l.length - 1)) 0 (by rw [swapL_length]; omega) (by omega)
    (fun k hk hkn hne => by
      rw [key k (by omega), key ((k - 1) / 2) (by omega), if_neg (by omega), if_neg (by omega), if_neg (by omega), if_neg (by omega)]
      exact h k hk (by omega))
    (fun k hk hkn he h0 => by omega)
  refine ⟨a, by rw [popL, b, swapL_length], c.trans (swapL_perm l _ _ (by omega) (by omega)), ?_⟩
  rw [popL, d _ (Nat.le_refl _) (by rw [swapL_length]; omega), key _ (by omega), if_pos rfl]
end Go.Proofs.Ytekeondobdjppaa
