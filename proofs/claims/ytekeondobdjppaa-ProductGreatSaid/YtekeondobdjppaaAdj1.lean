/- An edge is added to the ends of a vertex: walk. -/
import Derived.Test.YtekeondobdjppaaQWalkE
import Derived.Test.YtekeondobdjppaaQueue
import Derived.Deep.RegionHeld3
namespace Go.Proofs.Ytekeondobdjppaa
open Go.RowKit

theorem Blk.new' {w : World} (c : Array Value) (T : TypeId) {k : Nat} (hk : w.heap.size = k) : Blk (w.alloc (.cells c T)) k T c.toList := hk ▸ Blk.new w c T

theorem Blk.grown {w w' : World} {b : Nat} {T : TypeId} {c : List Value} (h : Blk w b T c) {row : Option Nat} (hg : w.grownBy w' row) (hne : some b ≠ row) : Blk w' b T c := (hg.block b h.lt hne).trans h
theorem none_lt {w : World} {base e size n : Nat} {v : Value} {xs : List Value} (h : w.ownsRow base e size v n xs) {k : Nat} (hk : v.ownBlock = some k) : k < w.heap.size := (h.lt k hk).2

set_option maxRecDepth 100000 in
set_option maxHeartbeats 2000000 in
theorem add_raw (b o n1 n2 cap1 cap2 : Nat) (A1 A2 : Option Addr) (x y : Int) (xs ys : List Value) (w : World) (h1 : n1 < 1000000000) (h2 : n2 < 1000000000)
    (hb1 : some b ≠ (Value.slice A1 n1 cap1).ownBlock) (hb2 : some b ≠ (Value.slice A2 n2 cap2).ownBlock) (h12 : ∀ k, (Value.slice A1 n1 cap1).ownBlock = some k → (Value.slice A2 n2 cap2).ownBlock ≠ some k)
    (c1 : w.cell? ⟨b, o, none⟩ = some (.slice A1 n1 cap1)) (c2 : w.cell? ⟨b, o + 1, none⟩ = some (.slice A2 n2 cap2)) (f : ∀ j, w.frozen? ⟨b, j, none⟩ = false)
    (HO1 : Hid (w.ownsRow 0 3 1 (.slice A1 n1 cap1) n1 xs)) (HO2 : Hid (w.ownsRow 0 3 1 (.slice A2 n2 cap2) n2 ys)) :
    Calls Try.prog 113 #[.pointer (some ⟨b, o, none⟩), .int .i64 x, .int .i64 y] w fun e w' => e = .returned (.tuple #[]) ∧
      ∃ g1 d1 g2 d2 W, w' = (W.setCell ⟨b, o, none⟩ (.slice (some ⟨g1, 0, none⟩) (n1 + 1) d1)).setCell ⟨b, o + 1, none⟩ (.slice (some ⟨g2, 0, none⟩) (n2 + 1) d2) ∧
        W.ownsRow 0 3 1 (.slice (some ⟨g1, 0, none⟩) (n1 + 1) d1) (n1 + 1) (xs ++ [.int .i64 x]) ∧ W.ownsRow 0 3 1 (.slice (some ⟨g2, 0, none⟩) (n2 + 1) d2) (n2 + 1) (ys ++ [.int .i64 y]) ∧
        Mod ((Value.slice A1 n1 cap1).ownBlock.toList ++ (Value.slice A2 n2 cap2).ownBlock.toList) w W ∧ ((Value.slice A1 n1 cap1).ownBlock = some g1 ∨ w.heap.size ≤ g1) ∧ ((Value.slice A2 n2 cap2).ownBlock = some g2 ∨ w.heap.size ≤ g2) ∧ g1 ≠ g2 := by
  have HB1 := Lib.hid hb1
  have HB2 := Lib.hid hb2
  have H12 := Lib.hid h12
  clear hb1 hb2 h12
  have hlt : b < w.heap.size := World.block_lt_of_cell? w _ c1
  go_enter Try.func113, Try.ntmps113
  have f0 := f o
  have f1 := f (o + 1)
  clear f
  go_region_law
    (first
      | (refine step_app (by rfl) (.tmp 11) (.tmp 13) 22 (by rfl) appInt (.slice A1 n1 cap1) n1 xs (by rfl) (by first | exact own_alloc (own_alloc HO1.out _) _ | exact own_alloc HO1.out _) _ 3 1 [.int .i64 x] (by rfl) rfl (by first | exact Blk.new' _ _ (by simp) | exact (Blk.new' _ _ (by simp)).alloc _) (by simp [Value.oneCell']) (by omega) (by omega) ?_
         intro g1 d1 w1 ho1 hg1 hat1 hlt1
         have M1 : Mod (Value.slice A1 n1 cap1).ownBlock.toList w w1 := by first | exact (((Mod.refl _ w).alloc _).alloc _).drew.grown hg1 (fun k hk => Or.inl (toList_own.2 hk)) | exact ((Mod.refl _ w).alloc _).drew.grown hg1 (fun k hk => Or.inl (toList_own.2 hk))
         have t1 : (Value.slice A1 n1 cap1).ownBlock = some g1 ∨ w.heap.size ≤ g1 := hat1.imp (fun h => h) (fun h => by rw [h]; simp [World.drew]; try omega)
         have nb1 : b ∉ (Value.slice A1 n1 cap1).ownBlock.toList := fun h => HB1.out (toList_own.1 h).symm
         have q1 : w1.cell? ⟨b, o, none⟩ = some (.slice A1 n1 cap1) := M1.cell c1 nb1
         have q2 : w1.cell? ⟨b, o + 1, none⟩ = some (.slice A2 n2 cap2) := M1.cell c2 nb1
         have p1 : w1.frozen? ⟨b, o, none⟩ = false := frozen_mod M1 c1 nb1 f0
         have p2 : w1.frozen? ⟨b, o + 1, none⟩ = false := frozen_mod M1 c2 nb1 f1
         have r2 : Hid (w1.ownsRow 0 3 1 (.slice A2 n2 cap2) n2 ys) := M1.own HO2.out (fun k hk h => H12.out k (toList_own.1 h) hk)
         have z1 : b < w1.heap.size := Nat.lt_of_lt_of_le hlt M1.size
         have HG1 := Lib.hid hg1
         have HO1' := Lib.hid ho1
         have HM1 := Lib.hid M1
         have HT1 := Lib.hid t1
         clear ho1 hg1 hat1 M1 t1 nb1)
      | (refine step_app (by rfl) (.tmp 18) (.tmp 20) 22 (by rfl) appInt (.slice A2 n2 cap2) n2 ys (by rfl) (by first | exact own_alloc r2.out _ | exact r2.out) _ 3 1 [.int .i64 y] (by rfl) rfl (by first | exact Blk.new' _ _ (by simp) | exact Blk.grown (Blk.drew (Blk.new' _ _ (by simp))) HG1.out (fun e => by have := none_lt HO1.out e.symm; omega) | exact Blk.grown (Blk.drew ((Blk.new' _ _ (by simp)).alloc _)) HG1.out (fun e => by have := none_lt HO1.out e.symm; omega)) (by simp [Value.oneCell']) (by omega) (by omega) ?_
         intro g2 d2 w2 ho2 hg2 hat2 hlt2
         have M2 : Mod (Value.slice A2 n2 cap2).ownBlock.toList w1 w2 := by first | exact ((Mod.refl _ w1).alloc _).grown hg2 (fun k hk => Or.inl (toList_own.2 hk)) | exact (Mod.refl _ w1).grown hg2 (fun k hk => Or.inl (toList_own.2 hk)) | exact ((Mod.refl _ w1).alloc _).drew.grown hg2 (fun k hk => Or.inl (toList_own.2 hk)) | exact (Mod.refl _ w1).drew.grown hg2 (fun k hk => Or.inl (toList_own.2 hk))
         have t2 : (Value.slice A2 n2 cap2).ownBlock = some g2 ∨ w1.heap.size ≤ g2 := hat2.imp (fun h => h) (fun h => by rw [h]; simp; try omega)
         have nb2 : b ∉ (Value.slice A2 n2 cap2).ownBlock.toList := fun h => HB2.out (toList_own.1 h).symm
         have u1 : w2.cell? ⟨b, o, none⟩ = some (.slice A1 n1 cap1) := M2.cell q1 nb2
         have u2 : w2.cell? ⟨b, o + 1, none⟩ = some (.slice A2 n2 cap2) := M2.cell q2 nb2
         have v1 : w2.frozen? ⟨b, o, none⟩ = false := frozen_mod M2 q1 nb2 p1
         have v2 : w2.frozen? ⟨b, o + 1, none⟩ = false := frozen_mod M2 q2 nb2 p2
         have ne : g1 ∉ (Value.slice A2 n2 cap2).ownBlock.toList := fun h => HT1.out.elim (fun e => H12.out _ e (toList_own.1 h)) (fun e => by have := none_lt HO2.out (toList_own.1 h); omega)
         have r1 : Hid (w2.ownsRow 0 3 1 (.slice (some ⟨g1, 0, none⟩) (n1 + 1) d1) (n1 + 1) (xs ++ [.int .i64 x])) := M2.own HO1'.out (fun k hk h => by simp only [Value.ownBlock, Option.some.injEq] at hk; subst hk; exact ne h)
         have fin : Hid (Mod ((Value.slice A1 n1 cap1).ownBlock.toList ++ (Value.slice A2 n2 cap2).ownBlock.toList) w w2 ∧ ((Value.slice A1 n1 cap1).ownBlock = some g1 ∨ w.heap.size ≤ g1) ∧ ((Value.slice A2 n2 cap2).ownBlock = some g2 ∨ w.heap.size ≤ g2) ∧ g1 ≠ g2) :=
           ⟨(HM1.out.more (fun i hi => List.mem_append_left _ hi)).trans (M2.more (fun i hi => List.mem_append_right _ hi)), HT1.out, t2.imp (fun h => h) (fun h => Nat.le_trans HM1.out.size h), fun e => t2.elim (fun h => ne (toList_own.2 (by rw [h, e]))) (fun h => by omega)⟩
         have HO2' := Lib.hid ho2
         clear ho2 hg2 hat2 M2 t2 nb2 ne))
  all_goals go_wp2
  all_goals go_end0
  all_goals exact ⟨rfl, g1, d1, g2, d2, _, rfl, r1.out, HO2'.out, fin.out⟩
end Go.Proofs.Ytekeondobdjppaa
