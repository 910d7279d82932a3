/- A spot's number, a number's spot: walks. -/
import Derived.Test.YtekeondobdjppaaGraph
namespace Go.Proofs.Ytekeondobdjppaa
open Go.RowKit

set_option maxHeartbeats 400000 in
theorem id_raw (g S v s : Nat) (A : Option Addr) (c : Nat) (w : World) (h : w.cell? ⟨g, 3, none⟩ = some (.slice A S c)) (hb : v * S + s < 1000000) :
    Calls Try.prog 63 #[.pointer (some ⟨g, 0, none⟩), .agg #[.int .i64 v, .int .i64 s]] w fun e w' => e = .returned (.int .i64 ((v * S + s : Nat) : Int)) ∧ Mod [] w w' := by
  have hz : g < w.heap.size := World.block_lt_of_cell? w _ h
  have b1 : (0 : Int) ≤ (v : Int) * (S : Int) := by have : ((v * S : Nat) : Int) = (v : Int) * (S : Int) := Int.natCast_mul _ _
                                                    omega
  have b2 : (v : Int) * (S : Int) + (s : Int) < 1000000 := by have : ((v * S : Nat) : Int) = (v : Int) * (S : Int) := Int.natCast_mul _ _
                                                              omega
  go_enter Try.func63, Try.ntmps63
  go_wp2_with fail
  go_quiet (fail)
  go_wp2_with fail
  go_ret
  refine ⟨by simp, ((Mod.refl _ _).alloc _).drewN _⟩

set_option maxHeartbeats 400000 in
theorem spot_raw (g S id : Nat) (A : Option Addr) (c : Nat) (w : World) (h : w.cell? ⟨g, 3, none⟩ = some (.slice A S c)) (hS : 0 < S) (hb : id < 1000000) :
    Calls Try.prog 62 #[.pointer (some ⟨g, 0, none⟩), .int .i64 id] w fun e w' => e = .returned (.agg #[.int .i64 ((id / S : Nat) : Int), .int .i64 ((id % S : Nat) : Int)]) ∧ Mod [] w w' := by
  have hz : g < w.heap.size := World.block_lt_of_cell? w _ h
  have b1 : (0 : Int) < (S : Int) := by omega
  have b2 : (0 : Int) ≤ (id : Int) := by omega
  obtain ⟨p, hp⟩ : ∃ p, id / S = p := ⟨_, rfl⟩
  obtain ⟨r, hr⟩ : ∃ r, id % S = r := ⟨_, rfl⟩
  have e1 : (id : Int) / (S : Int) = (p : Int) := by rw [← hp]; exact (Int.natCast_ediv _ _).symm
  have e2 : (id : Int) % (S : Int) = (r : Int) := by rw [← hr]; exact (Int.natCast_emod _ _).symm
  have l1 : p ≤ id := by rw [← hp]; exact Nat.div_le_self _ _
  have b3 : (p : Int) ≤ 1000000 := by omega
  rw [hp, hr]
  clear hp hr
  go_enter Try.func62, Try.ntmps62
  go_wp2_with fail
  go_region
  all_goals go_wp2_with fail
  all_goals
    refine bodyPost_ret (v := .agg #[.int .i64 p, .int .i64 r]) (by simp [results, Try.results62, go_sem]) rfl ⟨rfl, ?_⟩
    exact ((Mod.refl _ _).alloc _).drew
end Go.Proofs.Ytekeondobdjppaa
