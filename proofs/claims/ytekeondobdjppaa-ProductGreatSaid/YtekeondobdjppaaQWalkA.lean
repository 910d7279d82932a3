/- Two items of a queue are changed: the walk of Swap. -/
import Derived.Test.YtekeondobdjppaaQSwap
namespace Go.Proofs.Ytekeondobdjppaa
open Go.RowKit

set_option maxRecDepth 100000 in
set_option maxHeartbeats 1000000 in
theorem swap_ne (q ib ab n cap m : Nat) (i j : Nat) (x y : Nat) (k l : Int) (w : World) (hi : i < n) (hj : j < n) (hij : i ≠ j)
    (hx : x < m) (hy : y < m) (hxy : x ≠ y) (hqi : q ≠ ib) (hqa : q ≠ ab) (hia : ib ≠ ab)
    (hq : w.cell? ⟨q, 0, none⟩ = some (.slice (some ⟨ib, 0, none⟩) n cap)) (hq1 : w.cell? ⟨q, 1, none⟩ = some (.slice (some ⟨ab, 0, none⟩) m m))
    (h1 : w.cell? ⟨ib, i * 2, none⟩ = some (.int .i64 x)) (h2 : w.cell? ⟨ib, i * 2 + 1, none⟩ = some (.int .i64 k))
    (h3 : w.cell? ⟨ib, j * 2, none⟩ = some (.int .i64 y)) (h4 : w.cell? ⟨ib, j * 2 + 1, none⟩ = some (.int .i64 l))
    (u v : Value) (h5 : w.cell? ⟨ab, x, none⟩ = some u) (h6 : w.cell? ⟨ab, y, none⟩ = some v)
    (f1 : ∀ o, w.frozen? ⟨ib, o, none⟩ = false) (f2 : ∀ o, w.frozen? ⟨ab, o, none⟩ = false) :
    Calls Try.prog 162 #[.pointer (some ⟨q, 0, none⟩), .int .i64 i, .int .i64 j] w fun e w' => e = .returned (.tuple #[]) ∧
      ((((((w.setCell ⟨ib, i * 2, none⟩ (.int .i64 y)).setCell ⟨ib, i * 2 + 1, none⟩ (.int .i64 l)).setCell ⟨ib, j * 2, none⟩ (.int .i64 x)).setCell ⟨ib, j * 2 + 1, none⟩ (.int .i64 k)).setCell
        ⟨ab, y, none⟩ (.int .i64 i)).setCell ⟨ab, x, none⟩ (.int .i64 j)).drew.drew = w' := by
  have b1 : (0 : Int) ≤ (i : Int) := by omega
  have b2 : (i : Int) < (n : Int) := by omega
  have b3 : (0 : Int) ≤ (j : Int) := by omega
  have b4 : (j : Int) < (n : Int) := by omega
  go_enter Try.func162, Try.ntmps162
  go_wp2
  go_region
  go_wp2
  go_region
  go_wp2
  go_end0
  exact ⟨rfl, rfl⟩

set_option maxRecDepth 100000 in
set_option maxHeartbeats 1000000 in
theorem swap_eq (q ib ab n cap m : Nat) (i : Nat) (x : Nat) (k : Int) (w : World) (hi : i < n)
    (hx : x < m) (hqi : q ≠ ib) (hqa : q ≠ ab) (hia : ib ≠ ab)
    (hq : w.cell? ⟨q, 0, none⟩ = some (.slice (some ⟨ib, 0, none⟩) n cap)) (hq1 : w.cell? ⟨q, 1, none⟩ = some (.slice (some ⟨ab, 0, none⟩) m m))
    (h1 : w.cell? ⟨ib, i * 2, none⟩ = some (.int .i64 x)) (h2 : w.cell? ⟨ib, i * 2 + 1, none⟩ = some (.int .i64 k))
    (u : Value) (h5 : w.cell? ⟨ab, x, none⟩ = some u)
    (f1 : ∀ o, w.frozen? ⟨ib, o, none⟩ = false) (f2 : ∀ o, w.frozen? ⟨ab, o, none⟩ = false) :
    Calls Try.prog 162 #[.pointer (some ⟨q, 0, none⟩), .int .i64 i, .int .i64 i] w fun e w' => e = .returned (.tuple #[]) ∧
      ((((((w.setCell ⟨ib, i * 2, none⟩ (.int .i64 x)).setCell ⟨ib, i * 2 + 1, none⟩ (.int .i64 k)).setCell ⟨ib, i * 2, none⟩ (.int .i64 x)).setCell ⟨ib, i * 2 + 1, none⟩ (.int .i64 k)).setCell
        ⟨ab, x, none⟩ (.int .i64 i)).setCell ⟨ab, x, none⟩ (.int .i64 i)).drew.drew = w' := by
  have b1 : (0 : Int) ≤ (i : Int) := by omega
  have b2 : (i : Int) < (n : Int) := by omega
  go_enter Try.func162, Try.ntmps162
  go_wp2
  go_region
  go_wp2
  go_region
  go_wp2
  go_end0
  exact ⟨rfl, rfl⟩

theorem own_ne_block {w : World} {base e size n : Nat} {v : Value} {xs c : List Value} {b T : Nat} (h : w.ownsRow base e size v n xs) (hb : Blk w b T c) (hT : e ≠ T) : ∀ k, v.ownBlock = some k → k ≠ b := by
  intro k hk e'
  subst e'
  rcases h.2 with ⟨rfl, _⟩ | ⟨g, cap, cur, rfl, h2, h3, _⟩
  · simp [Value.ownBlock] at hk
  · simp only [Value.ownBlock, Option.some.injEq] at hk
    subst hk
    have : Blk w g e cur.toList := by simpa [Blk] using h3
    exact hT (this.one hb).1

def swapW (w : World) (ib ab i j x y : Nat) (k l : Int) : World :=
  (((((w.setCell ⟨ib, i * 2, none⟩ (.int .i64 y)).setCell ⟨ib, i * 2 + 1, none⟩ (.int .i64 l)).setCell ⟨ib, j * 2, none⟩ (.int .i64 x)).setCell ⟨ib, j * 2 + 1, none⟩ (.int .i64 k)).setCell
        ⟨ab, y, none⟩ (.int .i64 i)).setCell ⟨ab, x, none⟩ (.int .i64 j)

theorem swapW_facts {w : World} {ib ab q i j x y T : Nat} {k l : Int} {cq a c : List Value} (hq : Blk w q T cq) (ha : Blk w ab 3 a) (hi : Blk w ib 201 c) (e1 : q ≠ ib) (e2 : q ≠ ab) (e3 : ib ≠ ab) :
    Blk (swapW w ib ab i j x y k l).drew.drew q T cq ∧ Blk (swapW w ib ab i j x y k l).drew.drew ab 3 ((a.set y (.int .i64 i)).set x (.int .i64 j)) ∧
    Blk (swapW w ib ab i j x y k l).drew.drew ib 201 ((((c.set (i * 2) (.int .i64 y)).set (i * 2 + 1) (.int .i64 l)).set (j * 2) (.int .i64 x)).set (j * 2 + 1) (.int .i64 k)) ∧
    Mod [q, ab, ib] w (swapW w ib ab i j x y k l).drew.drew := by
  have p1 := (((hi.set (i * 2) (.int .i64 y)).set (i * 2 + 1) (.int .i64 l)).set (j * 2) (.int .i64 x)).set (j * 2 + 1) (.int .i64 k)
  have p2 := (((hq.far (p := ⟨ib, i * 2, none⟩) e1 (.int .i64 y)).far (p := ⟨ib, i * 2 + 1, none⟩) e1 (.int .i64 l)).far (p := ⟨ib, j * 2, none⟩) e1 (.int .i64 x)).far (p := ⟨ib, j * 2 + 1, none⟩) e1 (.int .i64 k)
  have p3 := (((ha.far (p := ⟨ib, i * 2, none⟩) (Ne.symm e3) (.int .i64 y)).far (p := ⟨ib, i * 2 + 1, none⟩) (Ne.symm e3) (.int .i64 l)).far (p := ⟨ib, j * 2, none⟩) (Ne.symm e3) (.int .i64 x)).far (p := ⟨ib, j * 2 + 1, none⟩) (Ne.symm e3) (.int .i64 k)
  have m1 : ib ∈ [q, ab, ib] := by simp
  have m2 : ab ∈ [q, ab, ib] := by simp
  have p4 := ((((Mod.refl [q, ab, ib] w).setCell (p := ⟨ib, i * 2, none⟩) (Or.inl m1) (.int .i64 y)).setCell (p := ⟨ib, i * 2 + 1, none⟩) (Or.inl m1) (.int .i64 l)).setCell (p := ⟨ib, j * 2, none⟩) (Or.inl m1) (.int .i64 x)).setCell (p := ⟨ib, j * 2 + 1, none⟩) (Or.inl m1) (.int .i64 k)
  unfold swapW
  generalize (((w.setCell ⟨ib, i * 2, none⟩ (.int .i64 y)).setCell ⟨ib, i * 2 + 1, none⟩ (.int .i64 l)).setCell ⟨ib, j * 2, none⟩ (.int .i64 x)).setCell ⟨ib, j * 2 + 1, none⟩ (.int .i64 k) = W at *
  exact ⟨((p2.far (p := ⟨ab, y, none⟩) e2 (.int .i64 i)).far (p := ⟨ab, x, none⟩) e2 (.int .i64 j)).drew.drew, ((p3.set y (.int .i64 i)).set x (.int .i64 j)).drew.drew,
    ((p1.far (p := ⟨ab, y, none⟩) e3 (.int .i64 i)).far (p := ⟨ab, x, none⟩) e3 (.int .i64 j)).drew.drew, ((p4.setCell (p := ⟨ab, y, none⟩) (Or.inl m2) (.int .i64 i)).setCell (p := ⟨ab, x, none⟩) (Or.inl m2) (.int .i64 j)).drew.drew⟩

theorem flat_swap (l : List It) (i j : Nat) : ((((flat l).set (i * 2) (.int .i64 (itAt l j).1)).set (i * 2 + 1) (.int .i64 (itAt l j).2)).set (j * 2) (.int .i64 (itAt l i).1)).set (j * 2 + 1) (.int .i64 (itAt l i).2) = flat (swapL l i j) := by
  rw [swapL, flat_set, flat_set]

theorem swap_any {q ab n : Nat} {iv : Value} {l : List It} {w : World} (h : QS w q iv ab n l) (i j : Nat) (hi : i < l.length) (hj : j < l.length) :
    Calls Try.prog 162 #[.pointer (some ⟨q, 0, none⟩), .int .i64 i, .int .i64 j] w fun e w' => e = .returned (.tuple #[]) ∧ QS w' q iv ab n (swapL l i j) ∧ Mod (qf q iv ab) w w' := by
  have hln := h.len
  obtain ⟨ats, hq, hab, hown, hat, hn⟩ := h
  obtain ⟨ib, cap, rfl⟩ := own_form hown (by omega)
  obtain ⟨cur, hib, htake, hcl, hnc, hcm, _⟩ := own_get hown
  have si := itAt_some hi
  have sj := itAt_some hj
  have pi := hat.pos i _ si
  have pj := hat.pos j _ sj
  have ci := flat_get l i _ si
  have cj := flat_get l j _ sj
  have tk : ∀ k u, (flat l)[k]? = some u → cur[k]? = some u := fun k u hu => by
    rw [← htake, List.getElem?_take] at hu
    split at hu
    · exact hu
    · cases hu
  have e1 : q ≠ ib := hq.ne hib (by decide)
  have e2 : q ≠ ab := hq.ne hab (by decide)
  have e3 : ib ≠ ab := hib.ne hab (by decide)
  obtain ⟨g1, g2, g3, g4⟩ := swapW_facts (i := i) (j := j) (x := (itAt l i).1) (y := (itAt l j).1) (k := (itAt l i).2) (l := (itAt l j).2) hq hab hib e1 e2 e3
  rw [ints_set, ints_set] at g2
  have g5 : ((((cur.set (i * 2) (.int .i64 (itAt l j).1)).set (i * 2 + 1) (.int .i64 (itAt l j).2)).set (j * 2) (.int .i64 (itAt l i).1)).set (j * 2 + 1) (.int .i64 (itAt l i).2)).take (l.length * 2) = flat (swapL l i j) := by
    rw [List.take_set, List.take_set, List.take_set, List.take_set, htake, flat_swap]
  have g6 := own_mk (base := 0) (cap := cap) g3 g5 (by simpa using hcl) hnc hcm (Nat.zero_le _)
  have fin : ∀ W, swapW w ib ab i j (itAt l i).1 (itAt l j).1 (itAt l i).2 (itAt l j).2 = W → QS W.drew.drew q (.slice (some ⟨ib, 0, none⟩) l.length cap) ab n (swapL l i j) ∧ Mod (qf q (.slice (some ⟨ib, 0, none⟩) l.length cap) ab) w W.drew.drew := by
    rintro W rfl
    refine ⟨⟨_, g1, g2, by rw [swapL_length]; exact g6, ?_, hn⟩, g4⟩
    by_cases hij : i = j
    · subst hij
      rw [swapL_self l i hi, List.set_set, set_same pi.2]
      exact hat
    · exact hat.swap hi hj hij
  by_cases hij : i = j
  · subst hij
    refine (swap_eq q ib ab l.length cap n i (itAt l i).1 (itAt l i).2 w hi pi.1 e1 e2 e3 (hq.get rfl) (hq.get rfl) (hib.get (tk _ _ ci.1)) (hib.get (tk _ _ ci.2)) _ (hab.get (ints_get pi.2)) hib.frozen hab.frozen).mono ?_
    rintro e w' ⟨rfl, rfl⟩
    exact ⟨rfl, fin _ rfl⟩
  · refine (swap_ne q ib ab l.length cap n i j (itAt l i).1 (itAt l j).1 (itAt l i).2 (itAt l j).2 w hi hj hij pi.1 pj.1 (fun e => hij (hat.inj si sj e)) e1 e2 e3 (hq.get rfl) (hq.get rfl) (hib.get (tk _ _ ci.1)) (hib.get (tk _ _ ci.2)) (hib.get (tk _ _ cj.1)) (hib.get (tk _ _ cj.2)) _ _ (hab.get (ints_get pi.2)) (hab.get (ints_get pj.2)) hib.frozen hab.frozen).mono ?_
    rintro e w' ⟨rfl, rfl⟩
    exact ⟨rfl, fin _ rfl⟩
end Go.Proofs.Ytekeondobdjppaa
