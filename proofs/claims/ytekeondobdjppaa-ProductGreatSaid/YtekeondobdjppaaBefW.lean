/- The states that lead to each state by each mode, while they are laid. -/
import Derived.Test.YtekeondobdjppaaAdj1
import Derived.Test.YtekeondobdjppaaGraph
namespace Go.Proofs.Ytekeondobdjppaa
open Go.RowKit

theorem index5_0 (x0 x1 x2 x3 x4 : Value) (w : World) : (Instr.index 64 (.agg #[x0, x1, x2, x3, x4]) (.int .i64 0)).run Try.prog w = .ok x0 w := by kernel_rfl
theorem index5_1 (x0 x1 x2 x3 x4 : Value) (w : World) : (Instr.index 64 (.agg #[x0, x1, x2, x3, x4]) (.int .i64 1)).run Try.prog w = .ok x1 w := by kernel_rfl
theorem index5_2 (x0 x1 x2 x3 x4 : Value) (w : World) : (Instr.index 64 (.agg #[x0, x1, x2, x3, x4]) (.int .i64 2)).run Try.prog w = .ok x2 w := by kernel_rfl
theorem index5_3 (x0 x1 x2 x3 x4 : Value) (w : World) : (Instr.index 64 (.agg #[x0, x1, x2, x3, x4]) (.int .i64 3)).run Try.prog w = .ok x3 w := by kernel_rfl
theorem index5_4 (x0 x1 x2 x3 x4 : Value) (w : World) : (Instr.index 64 (.agg #[x0, x1, x2, x3, x4]) (.int .i64 4)).run Try.prog w = .ok x4 w := by kernel_rfl
theorem index5 (f : Nat → Nat) (m : Nat) (hm : m < 5) (w : World) : (Instr.index 64 (.agg #[.int .i64 (f 0), .int .i64 (f 1), .int .i64 (f 2), .int .i64 (f 3), .int .i64 (f 4)]) (.int .i64 (m : Int))).run Try.prog w = .ok (.int .i64 (f m)) w := by
  have h5 : m = 0 ∨ m = 1 ∨ m = 2 ∨ m = 3 ∨ m = 4 := by omega
  rcases h5 with rfl | rfl | rfl | rfl | rfl
  · exact index5_0 _ _ _ _ _ _
  · exact index5_1 _ _ _ _ _ _
  · exact index5_2 _ _ _ _ _ _
  · exact index5_3 _ _ _ _ _ _
  · exact index5_4 _ _ _ _ _ _

theorem rowsB_length (n : Nat) (V : Nat → Value) : (rowsB n V).length = n := by simp [rowsB]
def updN {α : Type} (V : Nat → α) (i : Nat) (x : α) : Nat → α := fun j => if j = i then x else V j
theorem rowsB_updN {n : Nat} {V : Nat → Value} {i : Nat} (_h : i < n) (x : Value) : (rowsB n V).set i x = rowsB n (updN V i x) := by
  apply List.ext_getElem?
  intro k
  rcases Nat.lt_or_ge k n with hk | hk
  · rw [rowsB_get hk, List.getElem?_set, rowsB_get hk]
    by_cases e : i = k
    · subst e; rw [if_pos rfl, if_pos (by rw [rowsB_length]; exact hk)]; simp [updN]
    · rw [if_neg e]; simp [updN, Ne.symm e]
  · rw [List.getElem?_eq_none (by simp [rowsB]; omega), List.getElem?_eq_none (by rw [rowsB_length]; exact hk)]

structure BefW (w : World) (lo bb N : Nat) (V : Nat → Value) (L : Nat → List Int) (ow : Nat → Nat) : Prop where
  base : lo ≤ w.heap.size
  b : Blk w bb 145 (rowsB N V)
  r : ∀ i, i < N → w.ownsRow 0 3 1 (V i) (L i).length (ints (L i))
  ow : ∀ i, i < N → ∀ k, (V i).ownBlock = some k → ow k = i ∧ lo ≤ k
theorem BefW.mod0 {w w' : World} {lo bb N : Nat} {V : Nat → Value} {L : Nat → List Int} {ow : Nat → Nat} (h : BefW w lo bb N V L ow) (hm : Mod [] w w') : BefW w' lo bb N V L ow :=
  ⟨Nat.le_trans h.base hm.size, hm.keep h.b (by simp), fun i hi => hm.own (h.r i hi) (by simp), h.ow⟩
theorem BefW.add {w W : World} {lo bb N : Nat} {V : Nat → Value} {L : Nat → List Int} {ow : Nat → Nat} (h : BefW w lo bb N V L ow) {i : Nat} (hi : i < N) (x : Int) (g d : Nat)
    (r1 : W.ownsRow 0 3 1 (.slice (some ⟨g, 0, none⟩) ((L i).length + 1) d) ((L i).length + 1) (ints (L i) ++ [.int .i64 x])) (hm : Mod (V i).ownBlock.toList w W) (k1 : (V i).ownBlock = some g ∨ w.heap.size ≤ g) :
    ∃ V' ow', BefW (W.setCell ⟨bb, i, none⟩ (.slice (some ⟨g, 0, none⟩) ((L i).length + 1) d)) lo bb N V' (updN L i (L i ++ [x])) ow' := by
  have hlo := h.base
  have nb : bb ∉ (V i).ownBlock.toList := fun hk => own_ne_block (h.r i hi) h.b (by decide) bb (toList_own.1 hk) rfl
  have B1 := (h.b.mod hm nb).set i (.slice (some ⟨g, 0, none⟩) ((L i).length + 1) d)
  rw [rowsB_updN hi] at B1
  have tW := h.b.mod hm nb
  have far : ∀ (u : Value) (m : Nat) (xs : List Value), W.ownsRow 0 3 1 u m xs → (W.setCell ⟨bb, i, none⟩ (.slice (some ⟨g, 0, none⟩) ((L i).length + 1) d)).ownsRow 0 3 1 u m xs := fun u m xs hu => by
    have m1 : bb ∈ [bb] := by simp
    exact ((Mod.refl [bb] W).setCell (p := ⟨bb, i, none⟩) (Or.inl m1) _).own hu (fun k e he => own_ne_block hu tW (by decide) k e (by simpa using he))
  refine ⟨_, fun k => if k = g then i else ow k, ⟨?_, B1, ?_, ?_⟩⟩
  · have := hm.size; simp only [World.setCell, Array.size_modify]; omega
  · intro j hj
    by_cases e : j = i
    · subst e
      simp only [updN, if_true]
      rw [show (L j ++ [x]).length = (L j).length + 1 by simp, show ints (L j ++ [x]) = ints (L j) ++ [Value.int .i64 x] by simp [ints]]
      exact far _ _ _ r1
    · simp only [updN, if_neg e]
      exact far _ _ _ (hm.own (h.r j hj) (fun k q hk => e (by have h1 := (h.ow j hj k q).1; have h2 := (h.ow i hi k (toList_own.1 hk)).1; omega)))
  · intro j hj k hk
    by_cases e : j = i
    · subst e
      simp only [updN, if_true, Value.ownBlock, Option.some.injEq] at hk
      subst hk
      refine ⟨by rw [if_pos rfl], ?_⟩
      rcases k1 with q | q
      · exact (h.ow j hj _ q).2
      · omega
    · simp only [updN, if_neg e] at hk
      have q := h.ow j hj k hk
      have l := none_lt (h.r j hj) hk
      have c : k ≠ g := fun c => by
        subst c
        rcases k1 with q' | q'
        · have := (h.ow i hi k q').1; omega
        · omega
      rw [if_neg c]; exact q
end Go.Proofs.Ytekeondobdjppaa
