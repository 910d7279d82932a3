/- How many items there are, which of two comes first, where an id stands: walks. -/
import Derived.Test.YtekeondobdjppaaQSwap
namespace Go.Proofs.Ytekeondobdjppaa
open Go.RowKit

theorem QS.mod {F : List Nat} {w w' : World} {q ab n : Nat} {iv : Value} {l : List It} (h : QS w q iv ab n l) (hm : Mod F w w') (hd : ∀ b ∈ qf q iv ab, b ∉ F) : QS w' q iv ab n l := by
  obtain ⟨ats, hq, hab, hown, hat, hn⟩ := h
  exact ⟨ats, hm.keep hq (hd q (by simp [qf])), hm.keep hab (hd ab (by simp [qf])), hm.own hown (fun k hk => hd k (by simp [qf, hk])), hat, hn⟩
theorem QS.mod0 {w w' : World} {q ab n : Nat} {iv : Value} {l : List It} (h : QS w q iv ab n l) (hm : Mod [] w w') : QS w' q iv ab n l := h.mod hm (fun _ _ => by simp)

set_option maxHeartbeats 400000 in
theorem before_calls (x y : It) (w : World) :
    Calls Try.prog 158 #[.agg #[.int .i64 x.1, .int .i64 x.2], .agg #[.int .i64 y.1, .int .i64 y.2]] w fun e w' => e = .returned (.bool (bef x y)) ∧ Mod [] w w' := by
  obtain ⟨x, k⟩ := x
  obtain ⟨y, l⟩ := y
  by_cases h : k = l
  · subst h
    go_enter Try.func158, Try.ntmps158
    go_wp2
    go_ret
    exact ⟨by simp [bef], ((Mod.refl _ _).alloc _).alloc _⟩
  · have h' : (k != l) = true := by simp [h]
    go_enter Try.func158, Try.ntmps158
    go_wp2
    go_ret
    exact ⟨by simp [bef, h], ((Mod.refl _ _).alloc _).alloc _⟩

set_option maxRecDepth 100000 in
set_option maxHeartbeats 400000 in
theorem less_raw (q ib n cap : Nat) (i j : Nat) (x y : It) (w : World) (hi : i < n) (hj : j < n)
    (hq : w.cell? ⟨q, 0, none⟩ = some (.slice (some ⟨ib, 0, none⟩) n cap))
    (h1 : w.cell? ⟨ib, i * 2, none⟩ = some (.int .i64 x.1)) (h2 : w.cell? ⟨ib, i * 2 + 1, none⟩ = some (.int .i64 x.2))
    (h3 : w.cell? ⟨ib, j * 2, none⟩ = some (.int .i64 y.1)) (h4 : w.cell? ⟨ib, j * 2 + 1, none⟩ = some (.int .i64 y.2)) :
    Calls Try.prog 159 #[.pointer (some ⟨q, 0, none⟩), .int .i64 i, .int .i64 j] w fun e w' => e = .returned (.bool (bef x y)) ∧ Mod [] w w' := by
  have h5 : (0 : Int) ≤ (i : Int) := by omega
  have h6 : (i : Int) < (n : Int) := by omega
  have h7 : (0 : Int) ≤ (j : Int) := by omega
  have h8 : (j : Int) < (n : Int) := by omega
  go_enter Try.func159, Try.ntmps159
  go_wp2
  go_still_tail 15, (by kernel_rfl)
  change wpList _ _ _ _ _ w.drew
  have hm : Mod [] w w.drew := (Mod.refl _ _).drew
  generalize w.drew = w2 at hm ⊢
  go_wp2_with (go_at_call 158; refine (before_calls _ _ _).mono ?_; rintro e w3 ⟨rfl, hm2⟩)
  go_ret
  exact ⟨rfl, hm.trans hm2⟩

theorem less_calls {q ab n : Nat} {iv : Value} {l : List It} {w : World} (h : QS w q iv ab n l) (i j : Nat) (hi : i < l.length) (hj : j < l.length) :
    Calls Try.prog 159 #[.pointer (some ⟨q, 0, none⟩), .int .i64 i, .int .i64 j] w fun e w' => e = .returned (.bool (bef (itAt l i) (itAt l j))) ∧ Mod [] w w' := by
  obtain ⟨ats, hq, hab, hown, hat, hn⟩ := h
  obtain ⟨ib, cap, rfl⟩ := own_form hown (by omega)
  obtain ⟨cur, hib, htake, hcl, hnc, hcm, _⟩ := own_get hown
  have ci := flat_get l i _ (itAt_some hi)
  have cj := flat_get l j _ (itAt_some hj)
  have tk : ∀ k u, (flat l)[k]? = some u → cur[k]? = some u := fun k u hu => by
    rw [← htake, List.getElem?_take] at hu
    split at hu
    · exact hu
    · cases hu
  exact less_raw q ib l.length cap i j _ _ w hi hj (hq.get rfl) (hib.get (tk _ _ ci.1)) (hib.get (tk _ _ ci.2)) (hib.get (tk _ _ cj.1)) (hib.get (tk _ _ cj.2))

theorem own_any {w : World} {base e size n : Nat} {v : Value} {xs : List Value} (h : w.ownsRow base e size v n xs) : ∃ A cap, v = .slice A n cap := by
  rcases h.2 with ⟨h1, h2⟩ | ⟨g, cap, cur, h1, _⟩
  · exact ⟨_, _, by rw [h1, h2]⟩
  · exact ⟨_, _, h1⟩

set_option maxHeartbeats 400000 in
theorem len_calls {q ab n : Nat} {iv : Value} {l : List It} {w : World} (h : QS w q iv ab n l) :
    Calls Try.prog 126 #[.pointer (some ⟨q, 0, none⟩)] w fun e w' => e = .returned (.int .i64 l.length) ∧ w = w' := by
  obtain ⟨ats, hq, hab, hown, hat, hn⟩ := h
  obtain ⟨A, cap, rfl⟩ := own_any hown
  have h0 := hq.get (i := 0) rfl
  clear hq hab hown hat hn
  go_enter Try.func126, Try.ntmps126
  go_wp2
  go_ret
  exact ⟨rfl, rfl⟩

set_option maxHeartbeats 400000 in
theorem place_raw (q ab n : Nat) (id : Nat) (p : Int) (w : World) (hid : id < n) (h1 : w.cell? ⟨q, 1, none⟩ = some (.slice (some ⟨ab, 0, none⟩) n n)) (h2 : w.cell? ⟨ab, id, none⟩ = some (.int .i64 p)) :
    Calls Try.prog 163 #[.pointer (some ⟨q, 0, none⟩), .int .i64 id] w fun e w' => e = .returned (.int .i64 p) ∧ w = w' := by
  have h5 : (0 : Int) ≤ (id : Int) := by omega
  have h6 : (id : Int) < (n : Int) := by omega
  go_enter Try.func163, Try.ntmps163
  go_wp2
  go_ret
  exact ⟨rfl, rfl⟩

/-- Of an id that waits: its place. -/
theorem place_calls {q ab n : Nat} {iv : Value} {l : List It} {w : World} (h : QS w q iv ab n l) (i : Nat) (x : It) (hi : l[i]? = some x) :
    Calls Try.prog 163 #[.pointer (some ⟨q, 0, none⟩), .int .i64 x.1] w fun e w' => e = .returned (.int .i64 i) ∧ w = w' := by
  obtain ⟨ats, hq, hab, hown, hat, hn⟩ := h
  exact place_raw q ab n x.1 i w (hat.pos i x hi).1 (hq.get rfl) (hab.get (ints_get (hat.pos i x hi).2))
/-- Of one that doesn't: -1. -/
theorem place_none {q ab n : Nat} {iv : Value} {l : List It} {w : World} (h : QS w q iv ab n l) (id : Nat) (hid : id < n) (hno : ∀ x ∈ l, x.1 ≠ id) :
    Calls Try.prog 163 #[.pointer (some ⟨q, 0, none⟩), .int .i64 id] w fun e w' => e = .returned (.int .i64 (-1)) ∧ w = w' := by
  obtain ⟨ats, hq, hab, hown, hat, hn⟩ := h
  rcases hat.rest id hid with h' | ⟨i, x, hi, hx⟩
  · exact place_raw q ab n id (-1) w hid (hq.get rfl) (hab.get (ints_get h'))
  · exact absurd hx (hno x (List.mem_of_getElem? hi))
end Go.Proofs.Ytekeondobdjppaa
