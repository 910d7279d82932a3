/- Machines of one way as cells; a network with a machine, as it lies in memory. -/
import Derived.Test.YtekeondobdjppaaAdj3
import Derived.Test.YtekeondobdjppaaNet
namespace Go.Proofs.Ytekeondobdjppaa
open Go.RowKit

/-- A machine: how many states, where each mode leads, whether it accepts. -/
structure Dm where
  S : Nat
  nx : Nat → Nat → Nat
  ac : Nat → Bool
def DmOk (D : Dm) : Prop := 0 < D.S ∧ D.S ≤ 2000 ∧ ∀ s m, s < D.S → m < 5 → D.nx s m < D.S
def nxCells (D : Dm) (k : Nat) : List Value := (List.range k).flatMap fun s => [.int .i64 (D.nx s 0), .int .i64 (D.nx s 1), .int .i64 (D.nx s 2), .int .i64 (D.nx s 3), .int .i64 (D.nx s 4)]
def acCells (D : Dm) (k : Nat) : List Value := (List.range k).map fun s => .bool (D.ac s)
theorem nxCells_succ (D : Dm) (k : Nat) : nxCells D (k + 1) = nxCells D k ++ [.int .i64 (D.nx k 0), .int .i64 (D.nx k 1), .int .i64 (D.nx k 2), .int .i64 (D.nx k 3), .int .i64 (D.nx k 4)] := by simp [nxCells, List.range_succ]
theorem nxCells_length (D : Dm) (k : Nat) : (nxCells D k).length = k * 5 := by
  induction k with
  | zero => rfl
  | succ k ih => rw [nxCells_succ, List.length_append, ih]; simp; omega
theorem nxCells_get (D : Dm) {k : Nat} : ∀ {s m : Nat}, s < k → m < 5 → (nxCells D k)[s * 5 + m]? = some (.int .i64 (D.nx s m)) := by
  induction k with
  | zero => intro s m h; omega
  | succ k ih =>
    intro s m h hm
    rw [nxCells_succ]
    have hl := nxCells_length D k
    by_cases e : s = k
    · subst e
      rw [List.getElem?_append_right (by omega), hl, Nat.add_sub_cancel_left]
      match m, hm with
      | 0, _ => rfl
      | 1, _ => rfl
      | 2, _ => rfl
      | 3, _ => rfl
      | 4, _ => rfl
    · rw [List.getElem?_append_left (by omega)]
      exact ih (by omega) hm
theorem acCells_length (D : Dm) (k : Nat) : (acCells D k).length = k := by simp [acCells]
theorem acCells_get (D : Dm) {k s : Nat} (h : s < k) : (acCells D k)[s]? = some (.bool (D.ac s)) := by simp [acCells, h]

/-- Which states lead to s by m. -/
def befs (D : Dm) (k s m : Nat) : List Nat := (List.range k).filter fun q => D.nx q m == s
def rowsB (n : Nat) (V : Nat → Value) : List Value := (List.range n).map V
theorem rowsB_get {n : Nat} {V : Nat → Value} {i : Nat} (h : i < n) : (rowsB n V)[i]? = some (V i) := by simp [rowsB, h]

/-- A network with a machine, to be read. -/
def GraphR (w : World) (F : List Nat) (g n : Nat) (E : List Ed) (D : Dm) : Prop :=
  n ≤ 60 ∧ 0 < n ∧ E.length < 1000000 ∧ EdOk n E ∧ DmOk D ∧ ∃ ev nv av a bb VB, Blk w g 144 [.int .i64 n, ev, .pointer (some ⟨a, 0, none⟩), nv, av, .slice (some ⟨bb, 0, none⟩) D.S D.S] ∧ g ∈ F ∧
    Sl w F ev E.length (edCells E) ∧ Sl w F nv D.S (nxCells D D.S) ∧ Sl w F av D.S (acCells D D.S) ∧ AdjR w F a n (fun v => castL (outsK E E.length v)) (fun v => castL (insK E E.length v)) ∧
    Blk w bb 145 (rowsB (D.S * 5) VB) ∧ bb ∈ F ∧ ∀ s m, s < D.S → m < 5 → Sl w F (VB (s * 5 + m)) (befs D D.S s m).length (ints (castL (befs D D.S s m)))
theorem GraphR.mod {w w' : World} {F G : List Nat} {g n : Nat} {E : List Ed} {D : Dm} (h : GraphR w F g n E D) (hm : Mod G w w') (hd : ∀ b ∈ F, b ∉ G) : GraphR w' F g n E D := by
  obtain ⟨h1, h0, h2, h3, h4, ev, nv, av, a, bb, VB, k1, k2, k3, k4, k5, k6, k7, k8, k9⟩ := h
  exact ⟨h1, h0, h2, h3, h4, ev, nv, av, a, bb, VB, hm.keep k1 (hd _ k2), k2, k3.mod hm hd, k4.mod hm hd, k5.mod hm hd, k6.mod hm hd, hm.keep k7 (hd _ k8), k8, fun s m h1 h2 => (k9 s m h1 h2).mod hm hd⟩
theorem GraphR.mod0 {w w' : World} {F : List Nat} {g n : Nat} {E : List Ed} {D : Dm} (h : GraphR w F g n E D) (hm : Mod [] w w') : GraphR w' F g n E D := h.mod hm (fun _ _ => by simp)

theorem id_bound {n S v s : Nat} (hn : n ≤ 60) (hS : S ≤ 2000) (hv : v < n) (hs : s < S) : v * S + s < n * S ∧ n * S ≤ 120000 := by
  constructor
  · have : (v + 1) * S ≤ n * S := Nat.mul_le_mul_right _ hv
    rw [Nat.add_mul] at this; omega
  · exact Nat.le_trans (Nat.mul_le_mul hn hS) (by omega)
end Go.Proofs.Ytekeondobdjppaa
