/- Who leads where, while it is made. -/
import Derived.Test.YtekeondobdjppaaAdj1
import Derived.Test.YtekeondobdjppaaAdj3
namespace Go.Proofs.Ytekeondobdjppaa
open Go.RowKit

def updL (L : Nat → List Int × List Int) (v : Nat) (x y : Int) : Nat → List Int × List Int := fun i => if i = v then ((L v).1 ++ [x], (L v).2 ++ [y]) else L i

/-- While it is made: the rows of all vertices lie apart ('ow': whose a block is); all that is written lies from lo on. -/
structure AdjW (w : World) (lo a ob ib n : Nat) (ev : Value) (VO VI : Nat → Value × Value) (LO LI : Nat → List Int × List Int) (ow : Nat → Nat) : Prop where
  n_le : n ≤ 1000000
  base : lo ≤ w.heap.size
  ab : Blk w a 187 [.int .i64 n, ev, .slice (some ⟨ob, 0, none⟩) n n, .slice (some ⟨ib, 0, none⟩) n n]
  o : Blk w ob 190 (tab n VO)
  i : Blk w ib 190 (tab n VI)
  ne : ob ≠ ib
  la : lo ≤ a
  lo1 : lo ≤ ob
  lo2 : lo ≤ ib
  o1 : ∀ v, v < n → w.ownsRow 0 3 1 (VO v).1 (LO v).1.length (ints (LO v).1)
  o2 : ∀ v, v < n → w.ownsRow 0 3 1 (VO v).2 (LO v).2.length (ints (LO v).2)
  i1 : ∀ v, v < n → w.ownsRow 0 3 1 (VI v).1 (LI v).1.length (ints (LI v).1)
  i2 : ∀ v, v < n → w.ownsRow 0 3 1 (VI v).2 (LI v).2.length (ints (LI v).2)
  ow : ∀ v, v < n → ∀ k, ((VO v).1.ownBlock = some k → ow k = 4 * v + 0 ∧ lo ≤ k) ∧ ((VO v).2.ownBlock = some k → ow k = 4 * v + 1 ∧ lo ≤ k) ∧ ((VI v).1.ownBlock = some k → ow k = 4 * v + 2 ∧ lo ≤ k) ∧ ((VI v).2.ownBlock = some k → ow k = 4 * v + 3 ∧ lo ≤ k)

theorem AdjW.mod0 {w w' : World} {lo a ob ib n : Nat} {ev : Value} {VO VI : Nat → Value × Value} {LO LI : Nat → List Int × List Int} {ow : Nat → Nat} (h : AdjW w lo a ob ib n ev VO VI LO LI ow) (hm : Mod [] w w') : AdjW w' lo a ob ib n ev VO VI LO LI ow :=
  ⟨h.n_le, Nat.le_trans h.base hm.size, hm.keep h.ab (by simp), hm.keep h.o (by simp), hm.keep h.i (by simp), h.ne, h.la, h.lo1, h.lo2, fun v hv => hm.own (h.o1 v hv) (by simp), fun v hv => hm.own (h.o2 v hv) (by simp), fun v hv => hm.own (h.i1 v hv) (by simp), fun v hv => hm.own (h.i2 v hv) (by simp), h.ow⟩

theorem AdjW.out {w W : World} {lo a ob ib n : Nat} {ev : Value} {VO VI : Nat → Value × Value} {LO LI : Nat → List Int × List Int} {ow : Nat → Nat} (h : AdjW w lo a ob ib n ev VO VI LO LI ow) {v : Nat} (hv : v < n) (x y : Int) (g1 d1 g2 d2 : Nat)
    (r1 : W.ownsRow 0 3 1 (.slice (some ⟨g1, 0, none⟩) ((LO v).1.length + 1) d1) ((LO v).1.length + 1) (ints (LO v).1 ++ [.int .i64 x])) (r2 : W.ownsRow 0 3 1 (.slice (some ⟨g2, 0, none⟩) ((LO v).2.length + 1) d2) ((LO v).2.length + 1) (ints (LO v).2 ++ [.int .i64 y]))
    (hm : Mod ((VO v).1.ownBlock.toList ++ (VO v).2.ownBlock.toList) w W) (k1 : (VO v).1.ownBlock = some g1 ∨ w.heap.size ≤ g1) (k2 : (VO v).2.ownBlock = some g2 ∨ w.heap.size ≤ g2) (hg : g1 ≠ g2) :
    ∃ V' ow', AdjW ((W.setCell ⟨ob, v * 2, none⟩ (.slice (some ⟨g1, 0, none⟩) ((LO v).1.length + 1) d1)).setCell ⟨ob, v * 2 + 1, none⟩ (.slice (some ⟨g2, 0, none⟩) ((LO v).2.length + 1) d2)) lo a ob ib n ev V' VI (updL LO v x y) LI ow' := by
  have hG : ∀ k, k ∈ ((VO v).1.ownBlock.toList ++ (VO v).2.ownBlock.toList) → (ow k = 4 * v + 0 ∨ ow k = 4 * v + 1) ∧ lo ≤ k := by
    intro k hk
    rcases List.mem_append.1 hk with e | e
    · have := (h.ow v hv k).1 (toList_own.1 e); exact ⟨.inl this.1, this.2⟩
    · have := (h.ow v hv k).2.1 (toList_own.1 e); exact ⟨.inr this.1, this.2⟩
  have na : a ∉ ((VO v).1.ownBlock.toList ++ (VO v).2.ownBlock.toList) := fun hk => by
    rcases List.mem_append.1 hk with e | e
    · exact own_ne_block (h.o1 v hv) h.ab (by decide) a (toList_own.1 e) rfl
    · exact own_ne_block (h.o2 v hv) h.ab (by decide) a (toList_own.1 e) rfl
  have no : ob ∉ ((VO v).1.ownBlock.toList ++ (VO v).2.ownBlock.toList) := fun hk => by
    rcases List.mem_append.1 hk with e | e
    · exact own_ne_block (h.o1 v hv) h.o (by decide) ob (toList_own.1 e) rfl
    · exact own_ne_block (h.o2 v hv) h.o (by decide) ob (toList_own.1 e) rfl
  have ni : ib ∉ ((VO v).1.ownBlock.toList ++ (VO v).2.ownBlock.toList) := fun hk => by
    rcases List.mem_append.1 hk with e | e
    · exact own_ne_block (h.o1 v hv) h.i (by decide) ib (toList_own.1 e) rfl
    · exact own_ne_block (h.o2 v hv) h.i (by decide) ib (toList_own.1 e) rfl
  have ea : a ≠ ob := h.ab.ne h.o (by decide)
  have A1 := ((h.ab.mod hm na).far (p := ⟨ob, v * 2, none⟩) ea (.slice (some ⟨g1, 0, none⟩) ((LO v).1.length + 1) d1)).far (p := ⟨ob, v * 2 + 1, none⟩) ea (.slice (some ⟨g2, 0, none⟩) ((LO v).2.length + 1) d2)
  have T1 := ((h.o.mod hm no).set (v * 2) (.slice (some ⟨g1, 0, none⟩) ((LO v).1.length + 1) d1)).set (v * 2 + 1) (.slice (some ⟨g2, 0, none⟩) ((LO v).2.length + 1) d2)
  rw [tab_set hv] at T1
  have U1 := ((h.i.mod hm ni).far (p := ⟨ob, v * 2, none⟩) (Ne.symm h.ne) (.slice (some ⟨g1, 0, none⟩) ((LO v).1.length + 1) d1)).far (p := ⟨ob, v * 2 + 1, none⟩) (Ne.symm h.ne) (.slice (some ⟨g2, 0, none⟩) ((LO v).2.length + 1) d2)
  -- rows that are left alone
  have far : ∀ (W' : World) (u : Value) (m : Nat) (xs : List Value), W'.ownsRow 0 3 1 u m xs → (∀ k, u.ownBlock = some k → k ≠ ob) → ((W'.setCell ⟨ob, v * 2, none⟩ (.slice (some ⟨g1, 0, none⟩) ((LO v).1.length + 1) d1)).setCell ⟨ob, v * 2 + 1, none⟩ (.slice (some ⟨g2, 0, none⟩) ((LO v).2.length + 1) d2)).ownsRow 0 3 1 u m xs := fun W' u m xs hu hk => by
    have m1 : ob ∈ [ob] := by simp
    exact (((Mod.refl [ob] W').setCell (p := ⟨ob, v * 2, none⟩) (Or.inl m1) _).setCell (p := ⟨ob, v * 2 + 1, none⟩) (Or.inl m1) _).own hu (fun k e he => hk k e (by simpa using he))
  have keep : ∀ (u : Value) (m : Nat) (xs : List Value), w.ownsRow 0 3 1 u m xs → (∀ k, u.ownBlock = some k → ow k ≠ 4 * v + 0 ∧ ow k ≠ 4 * v + 1) → ((W.setCell ⟨ob, v * 2, none⟩ (.slice (some ⟨g1, 0, none⟩) ((LO v).1.length + 1) d1)).setCell ⟨ob, v * 2 + 1, none⟩ (.slice (some ⟨g2, 0, none⟩) ((LO v).2.length + 1) d2)).ownsRow 0 3 1 u m xs := fun u m xs hu hk =>
    far W u m xs (hm.own hu (fun k e he => by have := (hG k he).1; have := hk k e; omega)) (own_ne_block hu h.o (by decide))
  have tW : Blk W ob 190 _ := h.o.mod hm no
  have R1 := far W _ _ _ r1 (own_ne_block r1 tW (by decide))
  have R2 := far W _ _ _ r2 (own_ne_block r2 tW (by decide))
  have lt : ∀ (u : Value) (m : Nat) (xs : List Value), w.ownsRow 0 3 1 u m xs → ∀ k, u.ownBlock = some k → k < w.heap.size := fun u m xs hu k hk => none_lt hu hk
  have old1 : ∀ k, (VO v).1.ownBlock = some k → ow k = 4 * v + 0 ∧ lo ≤ k := fun k hk => (h.ow v hv k).1 hk
  have old2 : ∀ k, (VO v).2.ownBlock = some k → ow k = 4 * v + 1 ∧ lo ≤ k := fun k hk => (h.ow v hv k).2.1 hk
  have hlo := h.base
  have ow1 : ∀ (u : Value) (m : Nat) (xs : List Value) (s : Nat), w.ownsRow 0 3 1 u m xs → (∀ k, u.ownBlock = some k → ow k = s ∧ lo ≤ k) → s ≠ 4 * v + 0 → s ≠ 4 * v + 1 → ∀ k, u.ownBlock = some k → (if k = g1 then 4 * v + 0 else if k = g2 then 4 * v + 1 else ow k) = s ∧ lo ≤ k := by
    intro u m xs s hu hs s1 s2 k hk
    have e := hs k hk
    have l := lt u m xs hu k hk
    have c1 : k ≠ g1 := fun e1 => by subst e1; rcases k1 with q | q
                                     · have := old1 k q; omega
                                     · omega
    have c2 : k ≠ g2 := fun e1 => by subst e1; rcases k2 with q | q
                                     · have := old2 k q; omega
                                     · omega
    rw [if_neg c1, if_neg c2]; exact e
  have glo1 : lo ≤ g1 := by rcases k1 with q | q
                            · exact (old1 g1 q).2
                            · omega
  have glo2 : lo ≤ g2 := by rcases k2 with q | q
                            · exact (old2 g2 q).2
                            · omega
  refine ⟨_, fun k => if k = g1 then 4 * v + 0 else if k = g2 then 4 * v + 1 else ow k, ⟨h.n_le, ?_, A1, T1, U1, h.ne, h.la, h.lo1, h.lo2, ?_, ?_, ?_, ?_, ?_⟩⟩
  · have := hm.size; simp only [World.setCell, Array.size_modify]; omega
  · intro i hi
    by_cases e : i = v
    · subst e; simp only [updV, updL, if_true]; rw [show ((LO i).1 ++ [x]).length = (LO i).1.length + 1 by simp, show ints ((LO i).1 ++ [x]) = ints (LO i).1 ++ [Value.int .i64 x] by simp [ints]]; exact R1
    · simp only [updV, updL, if_neg e]; exact keep _ _ _ (h.o1 i hi) (fun k hk => by have := (h.ow i hi k).1 hk; omega)
  · intro i hi
    by_cases e : i = v
    · subst e; simp only [updV, updL, if_true]; rw [show ((LO i).2 ++ [y]).length = (LO i).2.length + 1 by simp, show ints ((LO i).2 ++ [y]) = ints (LO i).2 ++ [Value.int .i64 y] by simp [ints]]; exact R2
    · simp only [updV, updL, if_neg e]; exact keep _ _ _ (h.o2 i hi) (fun k hk => by have := (h.ow i hi k).2.1 hk; omega)
  · intro i hi
    exact keep _ _ _ (h.i1 i hi) (fun k hk => by have := (h.ow i hi k).2.2.1 hk; omega)
  · intro i hi
    exact keep _ _ _ (h.i2 i hi) (fun k hk => by have := (h.ow i hi k).2.2.2 hk; omega)
  · intro i hi k
    have q := h.ow i hi k
    by_cases e : i = v
    · subst e
      simp only [updV, if_true]
      refine ⟨fun hk => by simp only [Value.ownBlock, Option.some.injEq] at hk; subst hk; exact ⟨by rw [if_pos rfl], glo1⟩, fun hk => by simp only [Value.ownBlock, Option.some.injEq] at hk; subst hk; exact ⟨by rw [if_neg (Ne.symm hg), if_pos rfl], glo2⟩, ow1 _ _ _ _ (h.i1 i hi) (fun k hk => (h.ow i hi k).2.2.1 hk) (by omega) (by omega) k, ow1 _ _ _ _ (h.i2 i hi) (fun k hk => (h.ow i hi k).2.2.2 hk) (by omega) (by omega) k⟩
    · simp only [updV, if_neg e]
      exact ⟨ow1 _ _ _ _ (h.o1 i hi) (fun k hk => (h.ow i hi k).1 hk) (by omega) (by omega) k, ow1 _ _ _ _ (h.o2 i hi) (fun k hk => (h.ow i hi k).2.1 hk) (by omega) (by omega) k, ow1 _ _ _ _ (h.i1 i hi) (fun k hk => (h.ow i hi k).2.2.1 hk) (by omega) (by omega) k, ow1 _ _ _ _ (h.i2 i hi) (fun k hk => (h.ow i hi k).2.2.2 hk) (by omega) (by omega) k⟩

theorem AdjW.in {w W : World} {lo a ob ib n : Nat} {ev : Value} {VO VI : Nat → Value × Value} {LO LI : Nat → List Int × List Int} {ow : Nat → Nat} (h : AdjW w lo a ob ib n ev VO VI LO LI ow) {v : Nat} (hv : v < n) (x y : Int) (g1 d1 g2 d2 : Nat)
    (r1 : W.ownsRow 0 3 1 (.slice (some ⟨g1, 0, none⟩) ((LI v).1.length + 1) d1) ((LI v).1.length + 1) (ints (LI v).1 ++ [.int .i64 x])) (r2 : W.ownsRow 0 3 1 (.slice (some ⟨g2, 0, none⟩) ((LI v).2.length + 1) d2) ((LI v).2.length + 1) (ints (LI v).2 ++ [.int .i64 y]))
    (hm : Mod ((VI v).1.ownBlock.toList ++ (VI v).2.ownBlock.toList) w W) (k1 : (VI v).1.ownBlock = some g1 ∨ w.heap.size ≤ g1) (k2 : (VI v).2.ownBlock = some g2 ∨ w.heap.size ≤ g2) (hg : g1 ≠ g2) :
    ∃ V' ow', AdjW ((W.setCell ⟨ib, v * 2, none⟩ (.slice (some ⟨g1, 0, none⟩) ((LI v).1.length + 1) d1)).setCell ⟨ib, v * 2 + 1, none⟩ (.slice (some ⟨g2, 0, none⟩) ((LI v).2.length + 1) d2)) lo a ob ib n ev VO V' LO (updL LI v x y) ow' := by
  have hG : ∀ k, k ∈ ((VI v).1.ownBlock.toList ++ (VI v).2.ownBlock.toList) → (ow k = 4 * v + 2 ∨ ow k = 4 * v + 3) ∧ lo ≤ k := by
    intro k hk
    rcases List.mem_append.1 hk with e | e
    · have := (h.ow v hv k).2.2.1 (toList_own.1 e); exact ⟨.inl this.1, this.2⟩
    · have := (h.ow v hv k).2.2.2 (toList_own.1 e); exact ⟨.inr this.1, this.2⟩
  have na : a ∉ ((VI v).1.ownBlock.toList ++ (VI v).2.ownBlock.toList) := fun hk => by
    rcases List.mem_append.1 hk with e | e
    · exact own_ne_block (h.i1 v hv) h.ab (by decide) a (toList_own.1 e) rfl
    · exact own_ne_block (h.i2 v hv) h.ab (by decide) a (toList_own.1 e) rfl
  have no : ob ∉ ((VI v).1.ownBlock.toList ++ (VI v).2.ownBlock.toList) := fun hk => by
    rcases List.mem_append.1 hk with e | e
    · exact own_ne_block (h.i1 v hv) h.o (by decide) ob (toList_own.1 e) rfl
    · exact own_ne_block (h.i2 v hv) h.o (by decide) ob (toList_own.1 e) rfl
  have ni : ib ∉ ((VI v).1.ownBlock.toList ++ (VI v).2.ownBlock.toList) := fun hk => by
    rcases List.mem_append.1 hk with e | e
    · exact own_ne_block (h.i1 v hv) h.i (by decide) ib (toList_own.1 e) rfl
    · exact own_ne_block (h.i2 v hv) h.i (by decide) ib (toList_own.1 e) rfl
  have ea : a ≠ ib := h.ab.ne h.i (by decide)
  have A1 := ((h.ab.mod hm na).far (p := ⟨ib, v * 2, none⟩) ea (.slice (some ⟨g1, 0, none⟩) ((LI v).1.length + 1) d1)).far (p := ⟨ib, v * 2 + 1, none⟩) ea (.slice (some ⟨g2, 0, none⟩) ((LI v).2.length + 1) d2)
  have T1 := ((h.i.mod hm ni).set (v * 2) (.slice (some ⟨g1, 0, none⟩) ((LI v).1.length + 1) d1)).set (v * 2 + 1) (.slice (some ⟨g2, 0, none⟩) ((LI v).2.length + 1) d2)
  rw [tab_set hv] at T1
  have U1 := ((h.o.mod hm no).far (p := ⟨ib, v * 2, none⟩) h.ne (.slice (some ⟨g1, 0, none⟩) ((LI v).1.length + 1) d1)).far (p := ⟨ib, v * 2 + 1, none⟩) h.ne (.slice (some ⟨g2, 0, none⟩) ((LI v).2.length + 1) d2)
  -- rows that are left alone
  have far : ∀ (W' : World) (u : Value) (m : Nat) (xs : List Value), W'.ownsRow 0 3 1 u m xs → (∀ k, u.ownBlock = some k → k ≠ ib) → ((W'.setCell ⟨ib, v * 2, none⟩ (.slice (some ⟨g1, 0, none⟩) ((LI v).1.length + 1) d1)).setCell ⟨ib, v * 2 + 1, none⟩ (.slice (some ⟨g2, 0, none⟩) ((LI v).2.length + 1) d2)).ownsRow 0 3 1 u m xs := fun W' u m xs hu hk => by
    have m1 : ib ∈ [ib] := by simp
    exact (((Mod.refl [ib] W').setCell (p := ⟨ib, v * 2, none⟩) (Or.inl m1) _).setCell (p := ⟨ib, v * 2 + 1, none⟩) (Or.inl m1) _).own hu (fun k e he => hk k e (by simpa using he))
  have keep : ∀ (u : Value) (m : Nat) (xs : List Value), w.ownsRow 0 3 1 u m xs → (∀ k, u.ownBlock = some k → ow k ≠ 4 * v + 2 ∧ ow k ≠ 4 * v + 3) → ((W.setCell ⟨ib, v * 2, none⟩ (.slice (some ⟨g1, 0, none⟩) ((LI v).1.length + 1) d1)).setCell ⟨ib, v * 2 + 1, none⟩ (.slice (some ⟨g2, 0, none⟩) ((LI v).2.length + 1) d2)).ownsRow 0 3 1 u m xs := fun u m xs hu hk =>
    far W u m xs (hm.own hu (fun k e he => by have := (hG k he).1; have := hk k e; omega)) (own_ne_block hu h.i (by decide))
  have tW : Blk W ib 190 _ := h.i.mod hm ni
  have R1 := far W _ _ _ r1 (own_ne_block r1 tW (by decide))
  have R2 := far W _ _ _ r2 (own_ne_block r2 tW (by decide))
  have lt : ∀ (u : Value) (m : Nat) (xs : List Value), w.ownsRow 0 3 1 u m xs → ∀ k, u.ownBlock = some k → k < w.heap.size := fun u m xs hu k hk => none_lt hu hk
  have old1 : ∀ k, (VI v).1.ownBlock = some k → ow k = 4 * v + 2 ∧ lo ≤ k := fun k hk => (h.ow v hv k).2.2.1 hk
  have old2 : ∀ k, (VI v).2.ownBlock = some k → ow k = 4 * v + 3 ∧ lo ≤ k := fun k hk => (h.ow v hv k).2.2.2 hk
  have hlo := h.base
  have ow1 : ∀ (u : Value) (m : Nat) (xs : List Value) (s : Nat), w.ownsRow 0 3 1 u m xs → (∀ k, u.ownBlock = some k → ow k = s ∧ lo ≤ k) → s ≠ 4 * v + 2 → s ≠ 4 * v + 3 → ∀ k, u.ownBlock = some k → (if k = g1 then 4 * v + 2 else if k = g2 then 4 * v + 3 else ow k) = s ∧ lo ≤ k := by
    intro u m xs s hu hs s1 s2 k hk
    have e := hs k hk
    have l := lt u m xs hu k hk
    have c1 : k ≠ g1 := fun e1 => by subst e1; rcases k1 with q | q
                                     · have := old1 k q; omega
                                     · omega
    have c2 : k ≠ g2 := fun e1 => by subst e1; rcases k2 with q | q
                                     · have := old2 k q; omega
                                     · omega
    rw [if_neg c1, if_neg c2]; exact e
  have glo1 : lo ≤ g1 := by rcases k1 with q | q
                            · exact (old1 g1 q).2
                            · omega
  have glo2 : lo ≤ g2 := by rcases k2 with q | q
                            · exact (old2 g2 q).2
                            · omega
  refine ⟨_, fun k => if k = g1 then 4 * v + 2 else if k = g2 then 4 * v + 3 else ow k, ⟨h.n_le, ?_, A1, U1, T1, h.ne, h.la, h.lo1, h.lo2, ?_, ?_, ?_, ?_, ?_⟩⟩
  · have := hm.size; simp only [World.setCell, Array.size_modify]; omega
  · intro i hi
    exact keep _ _ _ (h.o1 i hi) (fun k hk => by have := (h.ow i hi k).1 hk; omega)
  · intro i hi
    exact keep _ _ _ (h.o2 i hi) (fun k hk => by have := (h.ow i hi k).2.1 hk; omega)
  · intro i hi
    by_cases e : i = v
    · subst e; simp only [updV, updL, if_true]; rw [show ((LI i).1 ++ [x]).length = (LI i).1.length + 1 by simp, show ints ((LI i).1 ++ [x]) = ints (LI i).1 ++ [Value.int .i64 x] by simp [ints]]; exact R1
    · simp only [updV, updL, if_neg e]; exact keep _ _ _ (h.i1 i hi) (fun k hk => by have := (h.ow i hi k).2.2.1 hk; omega)
  · intro i hi
    by_cases e : i = v
    · subst e; simp only [updV, updL, if_true]; rw [show ((LI i).2 ++ [y]).length = (LI i).2.length + 1 by simp, show ints ((LI i).2 ++ [y]) = ints (LI i).2 ++ [Value.int .i64 y] by simp [ints]]; exact R2
    · simp only [updV, updL, if_neg e]; exact keep _ _ _ (h.i2 i hi) (fun k hk => by have := (h.ow i hi k).2.2.2 hk; omega)
  · intro i hi k
    have q := h.ow i hi k
    by_cases e : i = v
    · subst e
      simp only [updV, if_true]
      refine ⟨ow1 _ _ _ _ (h.o1 i hi) (fun k hk => (h.ow i hi k).1 hk) (by omega) (by omega) k, ow1 _ _ _ _ (h.o2 i hi) (fun k hk => (h.ow i hi k).2.1 hk) (by omega) (by omega) k, fun hk => by simp only [Value.ownBlock, Option.some.injEq] at hk; subst hk; exact ⟨by rw [if_pos rfl], glo1⟩, fun hk => by simp only [Value.ownBlock, Option.some.injEq] at hk; subst hk; exact ⟨by rw [if_neg (Ne.symm hg), if_pos rfl], glo2⟩⟩
    · simp only [updV, if_neg e]
      exact ⟨ow1 _ _ _ _ (h.o1 i hi) (fun k hk => (h.ow i hi k).1 hk) (by omega) (by omega) k, ow1 _ _ _ _ (h.o2 i hi) (fun k hk => (h.ow i hi k).2.1 hk) (by omega) (by omega) k, ow1 _ _ _ _ (h.i1 i hi) (fun k hk => (h.ow i hi k).2.2.1 hk) (by omega) (by omega) k, ow1 _ _ _ _ (h.i2 i hi) (fun k hk => (h.ow i hi k).2.2.2 hk) (by omega) (by omega) k⟩

/-- An edge is added to the ends of a vertex. -/
theorem AdjW.out_add {w : World} {lo a ob ib n : Nat} {ev : Value} {VO VI : Nat → Value × Value} {LO LI : Nat → List Int × List Int} {ow : Nat → Nat} (h : AdjW w lo a ob ib n ev VO VI LO LI ow) {v : Nat} (hv : v < n) (x y : Int) (hl1 : (LO v).1.length < 1000000000) (hl2 : (LO v).2.length < 1000000000) :
    Calls Try.prog 113 #[.pointer (some ⟨ob, v * 2, none⟩), .int .i64 x, .int .i64 y] w fun e w' => e = .returned (.tuple #[]) ∧
      (∃ V' ow', AdjW w' lo a ob ib n ev V' VI (updL LO v x y) LI ow') ∧ ∃ G, Mod G w w' ∧ ∀ k ∈ G, lo ≤ k ∧ ∀ T' c, Blk w k T' c → T' = 190 ∨ T' = 3 := by
  have r1 := h.o1 v hv
  have r2 := h.o2 v hv
  obtain ⟨A1, c1, e1⟩ := own_any r1
  obtain ⟨A2, c2, e2⟩ := own_any r2
  have t1 := h.o.get (tab_get hv).1
  have t2 := h.o.get (tab_get hv).2
  have hG : ∀ k, k ∈ ((VO v).1.ownBlock.toList ++ (VO v).2.ownBlock.toList) → lo ≤ k ∧ ∀ T' c, Blk w k T' c → T' = 190 ∨ T' = 3 := by
    intro k hk
    rcases List.mem_append.1 hk with e | e
    · refine ⟨((h.ow v hv k).1 (toList_own.1 e)).2, fun T' c hb => ?_⟩
      by_cases ht : 3 = T'
      · exact .inr ht.symm
      · exact absurd rfl (own_ne_block r1 hb ht k (toList_own.1 e))
    · refine ⟨((h.ow v hv k).2.1 (toList_own.1 e)).2, fun T' c hb => ?_⟩
      by_cases ht : 3 = T'
      · exact .inr ht.symm
      · exact absurd rfl (own_ne_block r2 hb ht k (toList_own.1 e))
  have n1 := own_ne_block r1 h.o (by decide)
  have n2 := own_ne_block r2 h.o (by decide)
  have n3 : ∀ k, (VO v).1.ownBlock = some k → (VO v).2.ownBlock ≠ some k := fun k q1 q2 => by
    have := (h.ow v hv k).1 q1
    have := (h.ow v hv k).2.1 q2
    omega
  rw [e1] at r1 t1 n1 n3
  rw [e2] at r2 t2 n2 n3
  refine (add_raw ob (v * 2) _ _ c1 c2 A1 A2 x y _ _ w hl1 hl2 (fun e => n1 _ e.symm rfl) (fun e => n2 _ e.symm rfl) n3 t1 t2 h.o.frozen r1 r2).mono ?_
  rintro e w' ⟨rfl, g1, d1, g2, d2, W, rfl, q1, q2, q3, q4, q5, q6⟩
  rw [← e1] at q3 q4
  rw [← e2] at q3 q5
  refine ⟨rfl, h.out hv x y g1 d1 g2 d2 q1 q2 q3 q4 q5 q6, ob :: ((VO v).1.ownBlock.toList ++ (VO v).2.ownBlock.toList), ?_, ?_⟩
  · exact ((q3.more (fun i hi => List.mem_cons_of_mem _ hi)).setCell (Or.inl (by simp)) _).setCell (Or.inl (by simp)) _
  · intro k hk
    rcases List.mem_cons.1 hk with e | e
    · subst e
      exact ⟨h.lo1, fun T' c hb => .inl (hb.one h.o).1⟩
    · exact hG k e

/-- An edge is added to the ends of a vertex. -/
theorem AdjW.in_add {w : World} {lo a ob ib n : Nat} {ev : Value} {VO VI : Nat → Value × Value} {LO LI : Nat → List Int × List Int} {ow : Nat → Nat} (h : AdjW w lo a ob ib n ev VO VI LO LI ow) {v : Nat} (hv : v < n) (x y : Int) (hl1 : (LI v).1.length < 1000000000) (hl2 : (LI v).2.length < 1000000000) :
    Calls Try.prog 113 #[.pointer (some ⟨ib, v * 2, none⟩), .int .i64 x, .int .i64 y] w fun e w' => e = .returned (.tuple #[]) ∧
      (∃ V' ow', AdjW w' lo a ob ib n ev VO V' LO (updL LI v x y) ow') ∧ ∃ G, Mod G w w' ∧ ∀ k ∈ G, lo ≤ k ∧ ∀ T' c, Blk w k T' c → T' = 190 ∨ T' = 3 := by
  have r1 := h.i1 v hv
  have r2 := h.i2 v hv
  obtain ⟨A1, c1, e1⟩ := own_any r1
  obtain ⟨A2, c2, e2⟩ := own_any r2
  have t1 := h.i.get (tab_get hv).1
  have t2 := h.i.get (tab_get hv).2
  have hG : ∀ k, k ∈ ((VI v).1.ownBlock.toList ++ (VI v).2.ownBlock.toList) → lo ≤ k ∧ ∀ T' c, Blk w k T' c → T' = 190 ∨ T' = 3 := by
    intro k hk
    rcases List.mem_append.1 hk with e | e
    · refine ⟨((h.ow v hv k).2.2.1 (toList_own.1 e)).2, fun T' c hb => ?_⟩
      by_cases ht : 3 = T'
      · exact .inr ht.symm
      · exact absurd rfl (own_ne_block r1 hb ht k (toList_own.1 e))
    · refine ⟨((h.ow v hv k).2.2.2 (toList_own.1 e)).2, fun T' c hb => ?_⟩
      by_cases ht : 3 = T'
      · exact .inr ht.symm
      · exact absurd rfl (own_ne_block r2 hb ht k (toList_own.1 e))
  have n1 := own_ne_block r1 h.i (by decide)
  have n2 := own_ne_block r2 h.i (by decide)
  have n3 : ∀ k, (VI v).1.ownBlock = some k → (VI v).2.ownBlock ≠ some k := fun k q1 q2 => by
    have := (h.ow v hv k).2.2.1 q1
    have := (h.ow v hv k).2.2.2 q2
    omega
  rw [e1] at r1 t1 n1 n3
  rw [e2] at r2 t2 n2 n3
  refine (add_raw ib (v * 2) _ _ c1 c2 A1 A2 x y _ _ w hl1 hl2 (fun e => n1 _ e.symm rfl) (fun e => n2 _ e.symm rfl) n3 t1 t2 h.i.frozen r1 r2).mono ?_
  rintro e w' ⟨rfl, g1, d1, g2, d2, W, rfl, q1, q2, q3, q4, q5, q6⟩
  rw [← e1] at q3 q4
  rw [← e2] at q3 q5
  refine ⟨rfl, h.in hv x y g1 d1 g2 d2 q1 q2 q3 q4 q5 q6, ib :: ((VI v).1.ownBlock.toList ++ (VI v).2.ownBlock.toList), ?_, ?_⟩
  · exact ((q3.more (fun i hi => List.mem_cons_of_mem _ hi)).setCell (Or.inl (by simp)) _).setCell (Or.inl (by simp)) _
  · intro k hk
    rcases List.mem_cons.1 hk with e | e
    · subst e
      exact ⟨h.lo2, fun T' c hb => .inl (hb.one h.i).1⟩
    · exact hG k e
end Go.Proofs.Ytekeondobdjppaa
