/- A queue by its keys: New, Put, Pop, Key. -/
import Derived.Test.YtekeondobdjppaaQWalkG
import Derived.Test.YtekeondobdjppaaMemB
namespace Go.Proofs.Ytekeondobdjppaa
open Go.RowKit

theorem appInt : AppT Try.prog 22 3 (.int .i64 0) 1 8 := AppT.mk' (by kernel_rfl) (by kernel_rfl) rfl (by decide)

/-- Minus ones as far as k, noughts behind. -/
def minus (n k : Nat) : List Int := List.replicate k (-1) ++ List.replicate (n - k) 0
theorem minus_len {n k : Nat} (h : k ≤ n) : (minus n k).length = n := by simp [minus]; omega
theorem minus_zero (n : Nat) : ints (minus n 0) = List.replicate n (.int .i64 0) := by simp [minus, ints]
theorem minus_set {n k : Nat} (h : k < n) : (minus n k).set k (-1) = minus n (k + 1) := by
  apply List.ext_getElem?
  intro j
  simp only [minus, List.getElem?_set, List.getElem?_append, List.length_append, List.length_replicate, List.getElem?_replicate]
  split <;> (try split) <;> (try split) <;> (try split) <;> (try split) <;> simp_all <;> omega
theorem minus_get {n k j : Nat} (h : j < n) (hk : k ≤ n) : (minus n k)[j]? = some (if j < k then -1 else 0) := by
  simp only [minus, List.getElem?_append, List.length_replicate, List.getElem?_replicate]
  split
  · simp_all
  · rw [if_pos (by omega)]

set_option maxRecDepth 100000 in
set_option maxHeartbeats 1000000 in
theorem new_raw (n : Nat) (w : World) (hn : n ≤ 1000000) :
    Calls Try.prog 82 #[.int .i64 n] w fun e w' => e = .returned (.pointer (some ⟨w.heap.size + 1, 0, none⟩)) ∧
      Blk w' (w.heap.size + 1) 195 [.slice none 0 0, .slice (some ⟨w.heap.size, 0, none⟩) n n] ∧ Blk w' w.heap.size 3 (ints (minus n n)) ∧ Mod [] w w' := by
  have hmk := fun W => run_mk appInt n (by omega) (by omega) W
  go_enter Try.func82, Try.ntmps82
  go_wp2_with fail
  have z1 := (Blk.zrow (w := w) (.int .i64 0) n 3 rfl).alloc (.cells #[.slice none 0 0, .slice (some ⟨w.heap.size, 0, none⟩) n n] 195)
  rw [← minus_zero] at z1
  have z2 := Blk.new (w.alloc (.cells (zrow #[.int .i64 0] n) 3)) #[.slice none 0 0, .slice (some ⟨w.heap.size, 0, none⟩) n n] 195
  have z3 : (w.alloc (.cells (zrow #[.int .i64 0] n) 3)).heap.size = w.heap.size + 1 := by simp
  rw [z3] at z2
  have Z1 := Lib.hid z1
  have Z2 := Lib.hid z2
  clear z1 z2 z3
  go_loopw [17] (fun u wr => ∃ k : Nat, k ≤ n ∧ u = .int .i64 k ∧ Hid (Blk wr (w.heap.size + 1) 195 [.slice none 0 0, .slice (some ⟨w.heap.size, 0, none⟩) n n]) ∧ Hid (Blk wr w.heap.size 3 (ints (minus n k))) ∧ Hid (Mod [] w wr)) (fun u _ => n - (intOf u).toNat)
  case atStart => exact ⟨0, Nat.zero_le _, rfl, Z2, Z1, ((Mod.refl _ _).alloc _).alloc _⟩
  case round =>
    obtain ⟨k, hk, rfl, HQ, HA, HM⟩ := hrel
    by_cases hlt : k < n
    · have c0 : wr.cell? ⟨w.heap.size + 1, 1, none⟩ = some (.slice (some ⟨w.heap.size, 0, none⟩) n n) := HQ.out.get rfl
      have c1 := HA.out.get (ints_get (minus_get hlt hk))
      have f1 := HA.out.frozen k
      have b1 : (0 : Int) ≤ (k : Int) := by omega
      have b2 : (k : Int) < (n : Int) := by omega
      go_wp2_with fail
      go_roundw
      case rel =>
        refine ⟨k + 1, by omega, by go_num, HQ.out.far (by simp) _, ?_, HM.out.setCell (Or.inr (Nat.le_refl _)) _⟩
        have := HA.out.set k (.int .i64 (-1))
        rw [ints_set, minus_set hlt] at this
        exact this
      case measure => simp [intOf]; omega
    · obtain rfl : k = n := by omega
      go_wp2_with fail
      go_ret
      exact ⟨rfl, HQ.out, HA.out, HM.out⟩

/-- A queue at q by its keys: its blocks F, so many ids, the key of each that waits. -/
def Qu (w : World) (F : List Nat) (q n : Nat) (K : Nat → Option Int) : Prop :=
  ∃ iv ab l, F = qf q iv ab ∧ QS w q iv ab n l ∧ HeapAt l l.length ∧ ∀ id k, K id = some k ↔ (id, k) ∈ l

theorem Qu.mod {w w' : World} {F G : List Nat} {q n : Nat} {K : Nat → Option Int} (h : Qu w F q n K) (hm : Mod G w w') (hd : ∀ b ∈ F, b ∉ G) : Qu w' F q n K := by
  obtain ⟨iv, ab, l, rfl, hq, hh, hk⟩ := h
  exact ⟨iv, ab, l, rfl, hq.mod hm hd, hh, hk⟩
theorem Qu.lt {w : World} {F : List Nat} {q n : Nat} {K : Nat → Option Int} (h : Qu w F q n K) : ∀ b ∈ F, b < w.heap.size := by
  obtain ⟨iv, ab, l, rfl, ⟨ats, hq, hab, hown, _⟩, hh, hk⟩ := h
  intro b hb
  simp only [qf, List.mem_cons, toList_own] at hb
  rcases hb with h1 | h1 | h1
  · subst h1; exact hq.lt
  · subst h1; exact hab.lt
  · exact (hown.lt b h1).2
theorem Qu.n_le {w : World} {F : List Nat} {q n : Nat} {K : Nat → Option Int} (h : Qu w F q n K) : n ≤ 1000000 := by
  obtain ⟨iv, ab, l, rfl, ⟨ats, hq, hab, hown, hat, hn⟩, hh, hk⟩ := h
  exact hn
theorem Qu.id_lt {w : World} {F : List Nat} {q n : Nat} {K : Nat → Option Int} (h : Qu w F q n K) {id : Nat} {k : Int} (hk : K id = some k) : id < n := by
  obtain ⟨iv, ab, l, rfl, ⟨ats, hq, hab, hown, hat, hn⟩, hh, hK⟩ := h
  obtain ⟨i, hi⟩ := List.getElem?_of_mem ((hK id k).1 hk)
  exact (hat.pos i _ hi).1

theorem queueNew_calls (n : Nat) (w : World) (hn : n ≤ 1000000) :
    Calls Try.prog 82 #[.int .i64 n] w fun e w' => ∃ q F, e = .returned (.pointer (some ⟨q, 0, none⟩)) ∧ Qu w' F q n (fun _ => none) ∧ Mod [] w w' ∧ ∀ b ∈ F, w.heap.size ≤ b := by
  refine (new_raw n w hn).mono ?_
  rintro e w' ⟨rfl, hq, ha, hm⟩
  refine ⟨_, _, rfl, ⟨.slice none 0 0, w.heap.size, [], rfl, ⟨minus n n, hq, ha, World.ownsRow_nil _ _ _ _, ⟨minus_len (Nat.le_refl _), fun i x h => by simp at h, fun a h => .inl ?_⟩, hn⟩, fun k hk h => by simp at h, fun id k => by simp⟩, hm, ?_⟩
  · rw [minus_get h (Nat.le_refl _), if_pos h]
  · intro b hb
    simp only [qf, Value.ownBlock, Option.toList, List.mem_cons, List.not_mem_nil, or_false] at hb
    omega
end Go.Proofs.Ytekeondobdjppaa
