/- A slice made anew: slices.Clone. -/
import Derived.Test.YtekeondobdjppaaQueue
namespace Go.Proofs.Ytekeondobdjppaa
open Go.RowKit

theorem appEdge : AppT Try.prog 26 44 (.agg #[.int .i64 0, .int .i64 0, .int .i64 0, .int .i64 0]) 4 32 := AppT.mk' (by kernel_rfl) (by kernel_rfl) rfl (by decide)

set_option maxRecDepth 100000 in
set_option maxHeartbeats 1000000 in
theorem cloneInt_raw (b o n cap : Nat) (xs : List Value) (w : World) (hn : n < 1000000000) (hl : xs.length = n * 1) (h1 : ∀ u ∈ xs, u.oneCell' = true)
    (hc : ∀ j u, xs[j]? = some u → w.cell? ⟨b, o + j, none⟩ = some u) :
    Calls Try.prog 75 #[.slice (some ⟨b, o, none⟩) n cap] w fun e w' => ∃ v, e = .returned v ∧ w'.ownsRow 0 3 1 v n xs ∧ Mod [] w w' ∧ ∀ k, v.ownBlock = some k → w.heap.size ≤ k := by
  have hc' : ∀ (W : World), Mod [] w W → ∀ j u, xs[j]? = some u → W.cell? ((⟨b, o, none⟩ : Addr).add j) = some u := fun W hm j u hu => by rw [add_off]; exact hm.cell (hc j u hu) (by simp)
  have HC := Lib.hid hc'
  have H1 := Lib.hid h1
  have HL := Lib.hid hl
  clear hc hc' h1 hl
  have e0 := fun W => Lib.run_eql_slice_nil (P := Try.prog) W 22 3 (some ⟨b, o, none⟩) n cap 0 0 (by kernel_rfl)
  go_enter Try.func75, Try.ntmps75
  go_wp2_with ((at_builtin; refine list_apps rfl (.tmp 5) (.tmp 6) 22 rfl appInt (.slice (some ⟨w.heap.size, 0, none⟩) 0 0) 0 [] rfl (World.ownsRow_made w #[] 0 (Nat.zero_le _) (by simp [maxLen]) rfl) ⟨b, o, none⟩ n cap xs rfl HL.out (HC.out _ ((Mod.refl _ _).alloc _)) H1.out (by omega) (by omega) ?_; intro v' w1 ho hg hat))
  have ho' : w1.ownsRow 0 3 1 v' n xs := by simpa using ho
  have HO := Lib.hid ho'
  clear ho'
  have hm := (((Mod.refl [w.heap.size] w).alloc _).grown hg (fun k hk => Or.inl (by simpa [Value.ownBlock] using hk.symm))).fresh (by simp)
  have HM := Lib.hid hm
  have hf : ∀ k, v'.ownBlock = some k → w.heap.size ≤ k := fun k hk => by
    rcases hat with h | h
    · rw [hk] at h; simp [Value.ownBlock] at h; omega
    · rw [hk] at h; simp at h; omega
  have HF := Lib.hid hf
  clear ho hg hat hm hf
  go_wp2_with fail
  go_ret
  exact ⟨_, rfl, HO.out, HM.out, HF.out⟩

set_option maxRecDepth 100000 in
set_option maxHeartbeats 1000000 in
theorem cloneInt_nil (w : World) : Calls Try.prog 75 #[.slice none 0 0] w fun e w' => e = .returned (.slice none 0 0) ∧ w = w' := by
  have e0 := fun W => Lib.run_eql_slice_nil (P := Try.prog) W 22 3 none 0 0 0 0 (by kernel_rfl)
  go_enter Try.func75, Try.ntmps75
  go_wp2_with fail
  go_ret
  exact ⟨rfl, rfl⟩

/-- A slice made anew. -/
theorem cloneInt_calls {w : World} {F : List Nat} {v : Value} {n : Nat} {xs : List Value} (h : Sl w F v n xs) (hn : n < 1000000000) (hl : xs.length = n * 1) (h1 : ∀ u ∈ xs, u.oneCell' = true) :
    Calls Try.prog 75 #[v] w fun e w' => ∃ v', e = .returned v' ∧ w'.ownsRow 0 3 1 v' n xs ∧ Mod [] w w' ∧ ∀ k, v'.ownBlock = some k → w.heap.size ≤ k := by
  rcases h with ⟨rfl, rfl, rfl⟩ | ⟨b, o, cap, rfl, h2, h3, h4, h5, h6⟩
  · refine (cloneInt_nil w).mono ?_
    rintro e w' ⟨rfl, rfl⟩
    exact ⟨_, rfl, World.ownsRow_nil _ _ _ _, Mod.refl _ _, fun k hk => by simp [Value.ownBlock] at hk⟩
  · exact cloneInt_raw b o n cap xs w hn hl h1 h6

set_option maxRecDepth 100000 in
set_option maxHeartbeats 1000000 in
theorem cloneEdge_raw (b o n cap : Nat) (xs : List Value) (w : World) (hn : n < 1000000000) (hl : xs.length = n * 4) (h1 : ∀ u ∈ xs, u.oneCell' = true)
    (hc : ∀ j u, xs[j]? = some u → w.cell? ⟨b, o + j, none⟩ = some u) :
    Calls Try.prog 111 #[.slice (some ⟨b, o, none⟩) n cap] w fun e w' => ∃ v, e = .returned v ∧ w'.ownsRow 0 44 4 v n xs ∧ Mod [] w w' ∧ ∀ k, v.ownBlock = some k → w.heap.size ≤ k := by
  have hc' : ∀ (W : World), Mod [] w W → ∀ j u, xs[j]? = some u → W.cell? ((⟨b, o, none⟩ : Addr).add j) = some u := fun W hm j u hu => by rw [add_off]; exact hm.cell (hc j u hu) (by simp)
  have HC := Lib.hid hc'
  have H1 := Lib.hid h1
  have HL := Lib.hid hl
  clear hc hc' h1 hl
  have e0 := fun W => Lib.run_eql_slice_nil (P := Try.prog) W 26 44 (some ⟨b, o, none⟩) n cap 0 0 (by kernel_rfl)
  go_enter Try.func111, Try.ntmps111
  go_wp2_with ((at_builtin; refine list_apps rfl (.tmp 5) (.tmp 6) 26 rfl appEdge (.slice (some ⟨w.heap.size, 0, none⟩) 0 0) 0 [] rfl (World.ownsRow_made w #[] 0 (Nat.zero_le _) (by simp [maxLen]) rfl) ⟨b, o, none⟩ n cap xs rfl HL.out (HC.out _ ((Mod.refl _ _).alloc _)) H1.out (by omega) (by omega) ?_; intro v' w1 ho hg hat))
  have ho' : w1.ownsRow 0 44 4 v' n xs := by simpa using ho
  have HO := Lib.hid ho'
  clear ho'
  have hm := (((Mod.refl [w.heap.size] w).alloc _).grown hg (fun k hk => Or.inl (by simpa [Value.ownBlock] using hk.symm))).fresh (by simp)
  have HM := Lib.hid hm
  have hf : ∀ k, v'.ownBlock = some k → w.heap.size ≤ k := fun k hk => by
    rcases hat with h | h
    · rw [hk] at h; simp [Value.ownBlock] at h; omega
    · rw [hk] at h; simp at h; omega
  have HF := Lib.hid hf
  clear ho hg hat hm hf
  go_wp2_with fail
  go_ret
  exact ⟨_, rfl, HO.out, HM.out, HF.out⟩

set_option maxRecDepth 100000 in
set_option maxHeartbeats 1000000 in
theorem cloneEdge_nil (w : World) : Calls Try.prog 111 #[.slice none 0 0] w fun e w' => e = .returned (.slice none 0 0) ∧ w = w' := by
  have e0 := fun W => Lib.run_eql_slice_nil (P := Try.prog) W 26 44 none 0 0 0 0 (by kernel_rfl)
  go_enter Try.func111, Try.ntmps111
  go_wp2_with fail
  go_ret
  exact ⟨rfl, rfl⟩

/-- A slice made anew. -/
theorem cloneEdge_calls {w : World} {F : List Nat} {v : Value} {n : Nat} {xs : List Value} (h : Sl w F v n xs) (hn : n < 1000000000) (hl : xs.length = n * 4) (h1 : ∀ u ∈ xs, u.oneCell' = true) :
    Calls Try.prog 111 #[v] w fun e w' => ∃ v', e = .returned v' ∧ w'.ownsRow 0 44 4 v' n xs ∧ Mod [] w w' ∧ ∀ k, v'.ownBlock = some k → w.heap.size ≤ k := by
  rcases h with ⟨rfl, rfl, rfl⟩ | ⟨b, o, cap, rfl, h2, h3, h4, h5, h6⟩
  · refine (cloneEdge_nil w).mono ?_
    rintro e w' ⟨rfl, rfl⟩
    exact ⟨_, rfl, World.ownsRow_nil _ _ _ _, Mod.refl _ _, fun k hk => by simp [Value.ownBlock] at hk⟩
  · exact cloneEdge_raw b o n cap xs w hn hl h1 h6
end Go.Proofs.Ytekeondobdjppaa
