/- A queue in memory: its items, where each id stands; two of its items changed. -/
import Derived.Test.YtekeondobdjppaaProg
import Derived.Test.YtekeondobdjppaaMem
import Derived.Test.YtekeondobdjppaaQPure
import Derived.WalkSpells
import Derived.WalkLawsBesides
import Derived.Deep.QuietTactic
import Derived.BigQuiet
import Derived.Lib.Hide
import Derived.StillTailTactics
namespace Go.Proofs.Ytekeondobdjppaa
open Go.RowKit

def flat (l : List It) : List Value := l.flatMap fun x => [.int .i64 x.1, .int .i64 x.2]
theorem flat_nil : flat [] = [] := rfl
theorem flat_cons (x : It) (l : List It) : flat (x :: l) = .int .i64 x.1 :: .int .i64 x.2 :: flat l := rfl
theorem flat_append (l m : List It) : flat (l ++ m) = flat l ++ flat m := by simp [flat]
theorem flat_length (l : List It) : (flat l).length = l.length * 2 := by
  induction l with
  | nil => rfl
  | cons x l ih => rw [flat_cons]; simp [ih]; omega
theorem flat_get : ∀ (l : List It) (i : Nat) (x : It), l[i]? = some x → (flat l)[i * 2]? = some (.int .i64 x.1) ∧ (flat l)[i * 2 + 1]? = some (.int .i64 x.2) := by
  intro l
  induction l with
  | nil => intro i x h; simp at h
  | cons y l ih =>
    intro i x h
    cases i with
    | zero => simp at h; subst h; simp [flat_cons]
    | succ i =>
      have := ih i x (by simpa using h)
      rw [flat_cons, show (i + 1) * 2 = i * 2 + 1 + 1 by omega]
      simpa using this
theorem flat_set : ∀ (l : List It) (i : Nat) (x : It), flat (l.set i x) = ((flat l).set (i * 2) (.int .i64 x.1)).set (i * 2 + 1) (.int .i64 x.2) := by
  intro l
  induction l with
  | nil => intro i x; simp [flat_nil]
  | cons y l ih =>
    intro i x
    cases i with
    | zero => simp [flat_cons]
    | succ i =>
      rw [List.set_cons_succ, flat_cons, flat_cons, ih, show (i + 1) * 2 = i * 2 + 1 + 1 by omega]
      simp
theorem flat_take : ∀ (l : List It) (n : Nat), flat (l.take n) = (flat l).take (n * 2) := by
  intro l
  induction l with
  | nil => intro n; simp [flat_nil]
  | cons y l ih =>
    intro n
    cases n with
    | zero => simp [flat_nil]
    | succ n => rw [List.take_succ_cons, flat_cons, flat_cons, ih, show (n + 1) * 2 = n * 2 + 1 + 1 by omega]; simp

theorem set_same {α : Type} {l : List α} {i : Nat} {x : α} (h : l[i]? = some x) : l.set i x = l := by
  apply List.ext_getElem?
  intro k
  by_cases e : i = k
  · subst e
    have := (List.getElem?_eq_some_iff.1 h).1
    rw [List.getElem?_set_self this, h]
  · rw [List.getElem?_set_ne e]

/-- Where each id stands. -/
structure AtOk (n : Nat) (l : List It) (ats : List Int) : Prop where
  len : ats.length = n
  pos : ∀ (i : Nat) (x : It), l[i]? = some x → x.1 < n ∧ ats[x.1]? = some (i : Int)
  rest : ∀ (a : Nat), a < n → ats[a]? = some (-1) ∨ ∃ (i : Nat) (x : It), l[i]? = some x ∧ x.1 = a
theorem AtOk.inj {n : Nat} {l : List It} {ats : List Int} (h : AtOk n l ats) {i j : Nat} {x y : It} (hi : l[i]? = some x) (hj : l[j]? = some y) (e : x.1 = y.1) : i = j := by
  have h1 := (h.pos i x hi).2
  have h2 := (h.pos j y hj).2
  rw [e, h2] at h1
  have := Option.some.inj h1
  omega
theorem AtOk.swap {n : Nat} {l : List It} {ats : List Int} (h : AtOk n l ats) {i j : Nat} (hi : i < l.length) (hj : j < l.length) (hij : i ≠ j) :
    AtOk n (swapL l i j) ((ats.set (itAt l j).1 (i : Int)).set (itAt l i).1 (j : Int)) := by
  have si := itAt_some hi
  have sj := itAt_some hj
  have hne : (itAt l i).1 ≠ (itAt l j).1 := fun e => hij (h.inj si sj e)
  have ni := (h.pos i _ si).1
  have nj := (h.pos j _ sj).1
  refine ⟨by simp [h.len], ?_, ?_⟩
  · intro k x hk
    have hkl : k < l.length := by have := (List.getElem?_eq_some_iff.1 hk).1; rwa [swapL_length] at this
    have hx := itAt_of hk
    rw [itAt_swap l i j k hkl] at hx
    by_cases e1 : j = k
    · rw [if_pos e1] at hx; subst hx; subst e1
      exact ⟨ni, by rw [List.getElem?_set_self (by rw [List.length_set, h.len]; exact ni)]⟩
    · rw [if_neg e1] at hx
      by_cases e2 : i = k
      · rw [if_pos e2] at hx; subst hx; subst e2
        refine ⟨nj, ?_⟩
        rw [List.getElem?_set_ne hne, List.getElem?_set_self (by rw [h.len]; exact nj)]
      · rw [if_neg e2] at hx; subst hx
        have sk := itAt_some hkl
        refine ⟨(h.pos k _ sk).1, ?_⟩
        rw [List.getElem?_set_ne (fun e => e2 (h.inj si sk e)), List.getElem?_set_ne (fun e => e1 (h.inj sj sk e))]
        exact (h.pos k _ sk).2
  · intro a ha
    by_cases e1 : (itAt l i).1 = a
    · exact .inr ⟨j, itAt l i, by rw [itAt_some (by rw [swapL_length]; exact hj), itAt_swap l i j j hj, if_pos rfl], e1⟩
    · by_cases e2 : (itAt l j).1 = a
      · exact .inr ⟨i, itAt l j, by rw [itAt_some (by rw [swapL_length]; exact hi), itAt_swap l i j i hi, if_neg (fun e => hij e.symm), if_pos rfl], e2⟩
      · rw [List.getElem?_set_ne e1, List.getElem?_set_ne e2]
        rcases h.rest a ha with h' | ⟨k, x, hk, hx⟩
        · exact .inl h'
        · refine .inr ⟨k, x, ?_, hx⟩
          have hkl := (List.getElem?_eq_some_iff.1 hk).1
          rw [itAt_some (by rw [swapL_length]; exact hkl), itAt_swap l i j k hkl, if_neg (fun e => e2 (by subst e; rw [itAt_of hk]; exact hx)), if_neg (fun e => e1 (by subst e; rw [itAt_of hk]; exact hx)), itAt_of hk]

def ints (l : List Int) : List Value := l.map (Value.int .i64)
theorem ints_length (l : List Int) : (ints l).length = l.length := by simp [ints]
theorem ints_get {l : List Int} {i : Nat} {x : Int} (h : l[i]? = some x) : (ints l)[i]? = some (.int .i64 x) := by simp [ints, h]
theorem ints_set (l : List Int) (i : Nat) (x : Int) : (ints l).set i (.int .i64 x) = ints (l.set i x) := by simp [ints]

/-- A queue at block q: the value of its items iv, the block ab of its places, so many ids, the items. -/
def QS (w : World) (q : Nat) (iv : Value) (ab n : Nat) (l : List It) : Prop :=
  ∃ ats, Blk w q 195 [iv, .slice (some ⟨ab, 0, none⟩) n n] ∧ Blk w ab 3 (ints ats) ∧ w.ownsRow 0 201 2 iv l.length (flat l) ∧ AtOk n l ats ∧ n ≤ 1000000
/-- Its blocks. -/
def qf (q : Nat) (iv : Value) (ab : Nat) : List Nat := q :: ab :: iv.ownBlock.toList

theorem own_get {w : World} {base e size g n cap : Nat} {xs : List Value} (h : w.ownsRow base e size (.slice (some ⟨g, 0, none⟩) n cap) n xs) :
    ∃ cur, Blk w g e cur ∧ cur.take (n * size) = xs ∧ cur.length = cap * size ∧ n ≤ cap ∧ cap ≤ maxLen ∧ base ≤ g := by
  rcases h.2 with ⟨h1, _⟩ | ⟨g', cap', cur, h1, h2, h3, h4, h5, h6, h7⟩
  · cases h1
  · injection h1 with e1 e2 e3
    injection e1 with e1
    injection e1 with e1
    subst e1; subst e3
    exact ⟨cur.toList, by simpa [Blk] using h3, h7, by simpa using h6, h4, h5, h2⟩
theorem own_mk {w : World} {base e size g n cap : Nat} {xs cur : List Value} (h : Blk w g e cur) (ht : cur.take (n * size) = xs) (hl : cur.length = cap * size) (hn : n ≤ cap) (hc : cap ≤ maxLen) (hb : base ≤ g) :
    w.ownsRow base e size (.slice (some ⟨g, 0, none⟩) n cap) n xs := by
  refine ⟨?_, .inr ⟨g, cap, cur.toArray, rfl, hb, h, hn, hc, by simpa using hl, by simpa using ht⟩⟩
  rw [← ht, List.length_take, hl]
  exact Nat.min_eq_left (Nat.mul_le_mul_right _ hn)
theorem own_form {w : World} {base e size n : Nat} {v : Value} {xs : List Value} (h : w.ownsRow base e size v n xs) (hn : 0 < n) : ∃ g cap, v = .slice (some ⟨g, 0, none⟩) n cap := by
  rcases h.2 with ⟨_, h1⟩ | ⟨g, cap, cur, h1, _⟩
  · omega
  · exact ⟨g, cap, h1⟩

theorem len_le : ∀ (m : Nat) (l : List It), (∀ x ∈ l, x.1 < m) → l.Pairwise (fun x y => x.1 ≠ y.1) → l.length ≤ m := by
  intro m
  induction m with
  | zero => intro l hl _; cases l with | nil => simp | cons x l => exact absurd (hl x (by simp)) (by omega)
  | succ m ih =>
    intro l hl hd
    have h1 : (l.filter (fun x => decide (x.1 ≠ m))).length ≤ m := ih _
      (fun x hx => by
        have h2 := List.mem_filter.1 hx
        have := hl x h2.1
        have h3 : x.1 ≠ m := by simpa using h2.2
        omega)
      (List.Pairwise.sublist List.filter_sublist hd)
    have h2 : l.length ≤ (l.filter (fun x => decide (x.1 ≠ m))).length + 1 := by
      clear ih hl h1
      induction l with
      | nil => simp
      | cons x l ih =>
        rw [List.pairwise_cons] at hd
        by_cases e : x.1 = m
        · have : l.filter (fun x => decide (x.1 ≠ m)) = l := List.filter_eq_self.2 fun y hy => decide_eq_true (fun ey => hd.1 y hy (e.trans ey.symm))
          rw [List.filter_cons_of_neg (by simp [e]), this]
          simp
        · rw [List.filter_cons_of_pos (by simp [e])]
          have := ih hd.2
          simp only [List.length_cons]
          omega
    omega
theorem QS.len {w : World} {q ab n : Nat} {iv : Value} {l : List It} (h : QS w q iv ab n l) : l.length ≤ n := by
  obtain ⟨ats, _, _, _, hat, _⟩ := h
  refine len_le n l (fun x hx => ?_) ?_
  · obtain ⟨i, hi⟩ := List.getElem?_of_mem hx
    exact (hat.pos i x hi).1
  · rw [List.pairwise_iff_getElem]
    intro i j hi hj hij e
    have := hat.inj (List.getElem?_eq_getElem hi) (List.getElem?_eq_getElem hj) e
    omega
end Go.Proofs.Ytekeondobdjppaa
