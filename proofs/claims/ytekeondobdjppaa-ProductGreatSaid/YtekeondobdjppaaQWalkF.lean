/- The last item taken: the walk of Pop; the line of a queue. -/
import Derived.Test.YtekeondobdjppaaQWalkE
namespace Go.Proofs.Ytekeondobdjppaa
open Go.RowKit

set_option maxRecDepth 100000 in
set_option maxHeartbeats 2000000 in
theorem pop_raw (q ib ab n m cap : Nat) (x : It) (u : Value) (w : World) (hid : x.1 < m) (hn : n < 1000000000) (hnc : n + 1 ≤ cap) (hqa : q ≠ ab) (hqi : q ≠ ib) (hia : ib ≠ ab)
    (hqs : q < w.heap.size) (has : ab < w.heap.size)
    (hq : w.cell? ⟨q, 0, none⟩ = some (.slice (some ⟨ib, 0, none⟩) (n + 1) cap)) (hq1 : w.cell? ⟨q, 1, none⟩ = some (.slice (some ⟨ab, 0, none⟩) m m)) (hu : w.cell? ⟨ab, x.1, none⟩ = some u)
    (h1 : w.cell? ⟨ib, n * 2, none⟩ = some (.int .i64 x.1)) (h2 : w.cell? ⟨ib, n * 2 + 1, none⟩ = some (.int .i64 x.2))
    (f0 : ∀ o, w.frozen? ⟨q, o, none⟩ = false) (f1 : ∀ o, w.frozen? ⟨ab, o, none⟩ = false) :
    Calls Try.prog 160 #[.pointer (some ⟨q, 0, none⟩)] w fun e w' => e = .returned (.iface 201 (.agg #[.int .i64 x.1, .int .i64 x.2])) ∧
      (((w.setCell ⟨q, 0, none⟩ (.slice (some ⟨ib, 0, none⟩) n cap)).setCell ⟨ab, x.1, none⟩ (.int .i64 (-1))).alloc (.cells #[.int .i64 x.1, .int .i64 x.2] 201)).drew = w' := by
  have b1 : (0 : Int) ≤ (x.1 : Int) := by omega
  have b2 : (x.1 : Int) < (m : Int) := by omega
  have e1 : q ≠ w.heap.size := by omega
  have e2 : ab ≠ w.heap.size := by omega
  have s1 : ((n + 1 : Nat) : Int) - 1 = (n : Int) := by omega
  go_enter Try.func160, Try.ntmps160
  go_wp2
  go_region
  go_wp2
  go_ret
  exact ⟨rfl, rfl⟩

/-- The last item taken. -/
theorem pop_calls {q ab n m : Nat} {iv : Value} {l : List It} {w : World} (h : QS w q iv ab n l) (hl : l.length = m + 1) :
    Calls Try.prog 160 #[.pointer (some ⟨q, 0, none⟩)] w fun e w' => e = .returned (.iface 201 (.agg #[.int .i64 (itAt l m).1, .int .i64 (itAt l m).2])) ∧
      ∃ iv', QS w' q iv' ab n (l.take m) ∧ Mod (qf q iv ab) w w' ∧ (∀ b ∈ qf q iv' ab, b ∈ qf q iv ab ∨ w.heap.size ≤ b) := by
  have hln := h.len
  obtain ⟨ats, hq, hab, hown, hat, hn⟩ := h
  rw [hl] at hown
  obtain ⟨ib, cap, rfl⟩ := own_form hown (by omega)
  obtain ⟨cur, hib, htake, hcl, hnc, hcm, _⟩ := own_get hown
  have e1 : q ≠ ib := hq.ne hib (by decide)
  have e2 : q ≠ ab := hq.ne hab (by decide)
  have e3 : ib ≠ ab := hib.ne hab (by decide)
  have sm := itAt_some (l := l) (k := m) (by omega)
  have pm := hat.pos m _ sm
  have cm := flat_get l m _ sm
  have tk : ∀ k u, (flat l)[k]? = some u → cur[k]? = some u := fun k u hu => by
    rw [← htake, List.getElem?_take] at hu
    split at hu
    · exact hu
    · cases hu
  refine (pop_raw q ib ab m n cap (itAt l m) _ w pm.1 (by omega) hnc e2 e1 e3 hq.lt hab.lt (hq.get rfl) (hq.get rfl) (hab.get (ints_get pm.2)) (hib.get (tk _ _ cm.1)) (hib.get (tk _ _ cm.2)) hq.frozen hab.frozen).mono ?_
  rintro e w' ⟨rfl, rfl⟩
  have q1 := (((hq.set 0 (.slice (some ⟨ib, 0, none⟩) m cap)).far (p := ⟨ab, (itAt l m).1, none⟩) e2 (.int .i64 (-1))).alloc (.cells #[.int .i64 (itAt l m).1, .int .i64 (itAt l m).2] 201)).drew
  have a1 := (((hab.far (p := ⟨q, 0, none⟩) (Ne.symm e2) (.slice (some ⟨ib, 0, none⟩) m cap)).set (itAt l m).1 (.int .i64 (-1))).alloc (.cells #[.int .i64 (itAt l m).1, .int .i64 (itAt l m).2] 201)).drew
  have i1 := (((hib.far (p := ⟨q, 0, none⟩) (Ne.symm e1) (.slice (some ⟨ib, 0, none⟩) m cap)).far (p := ⟨ab, (itAt l m).1, none⟩) e3 (.int .i64 (-1))).alloc (.cells #[.int .i64 (itAt l m).1, .int .i64 (itAt l m).2] 201)).drew
  rw [ints_set] at a1
  have ht : cur.take (m * 2) = flat (l.take m) := by
    rw [flat_take, ← htake, List.take_take]
    congr 1; omega
  have o1 := own_mk (base := 0) (cap := cap) i1 ht hcl (by omega) hcm (Nat.zero_le _)
  have hlen : (l.take m).length = m := by rw [List.length_take]; omega
  refine ⟨rfl, .slice (some ⟨ib, 0, none⟩) m cap, ⟨_, q1, a1, by rw [hlen]; exact o1, ?_, hn⟩, ?_, ?_⟩
  · refine ⟨by simp [hat.len], ?_, ?_⟩
    · intro i x hi
      rw [List.getElem?_take] at hi
      split at hi
      · rename_i him
        have := hat.pos i x hi
        refine ⟨this.1, ?_⟩
        rw [List.getElem?_set_ne (fun e => by have := hat.inj sm hi e; omega)]
        exact this.2
      · cases hi
    · intro a ha
      by_cases e : (itAt l m).1 = a
      · subst e
        exact .inl (List.getElem?_set_self (by rw [hat.len]; exact pm.1))
      · rw [List.getElem?_set_ne e]
        rcases hat.rest a ha with h' | ⟨i, x, hi, hx⟩
        · exact .inl h'
        · refine .inr ⟨i, x, ?_, hx⟩
          have hil := (List.getElem?_eq_some_iff.1 hi).1
          have : i ≠ m := fun e' => e (by subst e'; rw [itAt_of hi]; exact hx)
          rw [List.getElem?_take, if_pos (by omega)]
          exact hi
  · exact ((((Mod.refl _ _).setCell (p := ⟨q, 0, none⟩) (Or.inl (by simp [qf])) _).setCell (p := ⟨ab, (itAt l m).1, none⟩) (Or.inl (by simp [qf])) _).alloc _).drew
  · intro b hb
    exact .inl (by simpa [qf, Value.ownBlock] using hb)

theorem line_calls (q : Nat) (w : World) : Calls Try.prog 114 #[.pointer (some ⟨q, 0, none⟩)] w fun e w' => e = .returned (.iface 220 (.pointer (some ⟨q, 0, none⟩))) ∧ w = w' := by
  go_enter Try.func114, Try.ntmps114
  go_wp2
  go_ret
  exact ⟨rfl, rfl⟩
end Go.Proofs.Ytekeondobdjppaa
