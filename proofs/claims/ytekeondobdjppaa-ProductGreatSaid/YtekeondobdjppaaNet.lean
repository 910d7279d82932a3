/- Networks as lists of edges, and as cells. -/
import Derived.Test.YtekeondobdjppaaMemB
import Derived.Test.YtekeondobdjppaaQSwap
namespace Go.Proofs.Ytekeondobdjppaa
open Go.RowKit

structure Ed where
  f : Nat
  t : Nat
  m : Nat
  c : Nat

def edCells (E : List Ed) : List Value := E.flatMap fun e => [.int .i64 e.f, .int .i64 e.t, .int .i64 e.m, .int .i64 e.c]
theorem edCells_cons (e : Ed) (E : List Ed) : edCells (e :: E) = .int .i64 e.f :: .int .i64 e.t :: .int .i64 e.m :: .int .i64 e.c :: edCells E := rfl
theorem edCells_append (E D : List Ed) : edCells (E ++ D) = edCells E ++ edCells D := by simp [edCells]
theorem edCells_length (E : List Ed) : (edCells E).length = E.length * 4 := by
  induction E with
  | nil => rfl
  | cons e E ih => rw [edCells_cons]; simp [ih]; omega
theorem edCells_get : ∀ (E : List Ed) (i : Nat) (e : Ed), E[i]? = some e → (edCells E)[i * 4]? = some (.int .i64 e.f) ∧ (edCells E)[i * 4 + 1]? = some (.int .i64 e.t) ∧ (edCells E)[i * 4 + 2]? = some (.int .i64 e.m) ∧ (edCells E)[i * 4 + 3]? = some (.int .i64 e.c) := by
  intro E
  induction E with
  | nil => intro i x h; simp at h
  | cons y E ih =>
    intro i x h
    cases i with
    | zero => simp at h; subst h; simp [edCells_cons]
    | succ i =>
      have := ih i x (by simpa using h)
      rw [edCells_cons, show (i + 1) * 4 = i * 4 + 1 + 1 + 1 + 1 by omega]
      simpa using this
theorem edCells_one (E : List Ed) : ∀ u ∈ edCells E, u.oneCell' = true := by
  intro u hu
  simp only [edCells, List.mem_flatMap] at hu
  obtain ⟨e, _, he⟩ := hu
  simp only [List.mem_cons, List.not_mem_nil, or_false] at he
  rcases he with rfl | rfl | rfl | rfl <;> rfl

/-- May edges be, of n vertices? -/
def EdOk (n : Nat) (E : List Ed) : Prop := ∀ e ∈ E, e.f < n ∧ e.t < n ∧ e.m < 5 ∧ e.c ≤ 2147483647

/-- The numbers of the edges from, to a vertex; of the first k ones. -/
def outsK (E : List Ed) (k v : Nat) : List Nat := (List.range k).filter fun i => match E[i]? with | some e => e.f == v | none => false
def insK (E : List Ed) (k v : Nat) : List Nat := (List.range k).filter fun i => match E[i]? with | some e => e.t == v | none => false
theorem outsK_succ {E : List Ed} {k : Nat} {e : Ed} (h : E[k]? = some e) (v : Nat) : outsK E (k + 1) v = if e.f = v then outsK E k v ++ [k] else outsK E k v := by
  simp only [outsK, List.range_succ, List.filter_append]
  by_cases e' : e.f = v <;> simp [h, e']
theorem insK_succ {E : List Ed} {k : Nat} {e : Ed} (h : E[k]? = some e) (v : Nat) : insK E (k + 1) v = if e.t = v then insK E k v ++ [k] else insK E k v := by
  simp only [insK, List.range_succ, List.filter_append]
  by_cases e' : e.t = v <;> simp [h, e']
def castL (l : List Nat) : List Int := l.map fun (x : Nat) => (x : Int)
end Go.Proofs.Ytekeondobdjppaa
