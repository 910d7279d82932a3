/- Who leads where, read: Out, In. -/
import Derived.Test.YtekeondobdjppaaAdj2
namespace Go.Proofs.Ytekeondobdjppaa
open Go.RowKit

def tab (n : Nat) (V : Nat → Value × Value) : List Value := (List.range n).flatMap fun v => [(V v).1, (V v).2]
theorem tab_succ (n : Nat) (V : Nat → Value × Value) : tab (n + 1) V = tab n V ++ [(V n).1, (V n).2] := by simp [tab, List.range_succ]
theorem tab_length (n : Nat) (V : Nat → Value × Value) : (tab n V).length = n * 2 := by
  induction n with
  | zero => rfl
  | succ n ih => rw [tab_succ, List.length_append, ih]; simp; omega
theorem tab_get {n : Nat} {V : Nat → Value × Value} : ∀ {v : Nat}, v < n → (tab n V)[v * 2]? = some (V v).1 ∧ (tab n V)[v * 2 + 1]? = some (V v).2 := by
  induction n with
  | zero => intro v h; omega
  | succ n ih =>
    intro v h
    rw [tab_succ]
    by_cases e : v = n
    · subst e
      have := tab_length v V
      rw [List.getElem?_append_right (by omega), List.getElem?_append_right (by omega), this]
      simp
    · have := tab_length n V
      rw [List.getElem?_append_left (by omega), List.getElem?_append_left (by omega)]
      exact ih (by omega)
def updV (V : Nat → Value × Value) (v : Nat) (x y : Value) : Nat → Value × Value := fun i => if i = v then (x, y) else V i
theorem tab_set {n : Nat} {V : Nat → Value × Value} {v : Nat} (_h : v < n) (x y : Value) : ((tab n V).set (v * 2) x).set (v * 2 + 1) y = tab n (updV V v x y) := by
  apply List.ext_getElem?
  intro k
  have l1 := tab_length n V
  have l2 := tab_length n (updV V v x y)
  rcases Nat.lt_or_ge k (n * 2) with hk | hk
  · have hd : k = k / 2 * 2 ∨ k = k / 2 * 2 + 1 := by omega
    have g1 := tab_get (V := V) (show k / 2 < n by omega)
    have g2 := tab_get (V := updV V v x y) (show k / 2 < n by omega)
    rw [List.getElem?_set, List.getElem?_set]
    simp only [List.length_set, l1]
    by_cases e : k / 2 = v
    · rcases hd with h' | h'
      · rw [if_neg (by omega), if_pos (by omega), if_pos (by omega), h', g2.1]; simp [updV, e]
      · rw [if_pos (by omega), if_pos (by omega), h', g2.2]; simp [updV, e]
    · rw [if_neg (by omega), if_neg (by omega)]
      rcases hd with h' | h'
      · rw [h', g1.1, g2.1]; simp [updV, e]
      · rw [h', g1.2, g2.2]; simp [updV, e]
  · rw [List.getElem?_eq_none (by simp; omega), List.getElem?_eq_none (by omega)]

/-- Who leads where, to be read: of n vertices; O, I: the edges from, to each. -/
def AdjR (w : World) (F : List Nat) (a n : Nat) (O I : Nat → List Int) : Prop :=
  n ≤ 1000000 ∧ ∃ ob ib ev VO VI, Blk w a 187 [.int .i64 n, ev, .slice (some ⟨ob, 0, none⟩) n n, .slice (some ⟨ib, 0, none⟩) n n] ∧ Blk w ob 190 (tab n VO) ∧ Blk w ib 190 (tab n VI) ∧
    a ∈ F ∧ ob ∈ F ∧ ib ∈ F ∧ (∀ v, v < n → (O v).length < 1000000000 ∧ Sl w F (VO v).1 (O v).length (ints (O v)) ∧ ∃ A m k, (VO v).2 = .slice A m k) ∧ (∀ v, v < n → (I v).length < 1000000000 ∧ Sl w F (VI v).1 (I v).length (ints (I v)) ∧ ∃ A m k, (VI v).2 = .slice A m k)
theorem AdjR.mod {w w' : World} {F G : List Nat} {a n : Nat} {O I : Nat → List Int} (h : AdjR w F a n O I) (hm : Mod G w w') (hd : ∀ b ∈ F, b ∉ G) : AdjR w' F a n O I := by
  obtain ⟨hn, ob, ib, ev, VO, VI, h1, h2, h3, h4, h5, h6, h7, h8⟩ := h
  exact ⟨hn, ob, ib, ev, VO, VI, hm.keep h1 (hd _ h4), hm.keep h2 (hd _ h5), hm.keep h3 (hd _ h6), h4, h5, h6, fun v hv => ⟨(h7 v hv).1, (h7 v hv).2.1.mod hm hd, (h7 v hv).2.2⟩, fun v hv => ⟨(h8 v hv).1, (h8 v hv).2.1.mod hm hd, (h8 v hv).2.2⟩⟩

theorem is_raw (a n v : Nat) (A : Option Addr) (c : Nat) (w : World) (hv : v < n) (h : w.cell? ⟨a, 2, none⟩ = some (.slice A n c)) :
    Calls Try.prog 112 #[.pointer (some ⟨a, 0, none⟩), .int .i64 v] w fun e w' => e = .returned (.bool true) ∧ w = w' := by
  have b1 : (0 : Int) ≤ (v : Int) := by omega
  have b2 : (v : Int) < (n : Int) := by omega
  go_enter Try.func112, Try.ntmps112
  go_wp2_with fail
  go_ret
  exact ⟨rfl, rfl⟩

set_option maxHeartbeats 400000 in
theorem side_raw (a b n v : Nat) (A A1 A2 : Option Addr) (c n1 n2 k1 k2 : Nat) (w : World) (hv : v < n) (h : w.cell? ⟨a, 2, none⟩ = some (.slice A n c))
    (h1 : w.cell? ⟨b, v * 2, none⟩ = some (.slice A1 n1 k1)) (h2 : w.cell? ⟨b, v * 2 + 1, none⟩ = some (.slice A2 n2 k2)) :
    Calls Try.prog 118 #[.pointer (some ⟨a, 0, none⟩), .slice (some ⟨b, 0, none⟩) n n, .int .i64 v] w fun e w' => e = .returned (.agg #[.slice A1 n1 k1, .slice A2 n2 k2]) ∧ Mod [] w w' := by
  have b1 : (0 : Int) ≤ (v : Int) := by omega
  have b2 : (v : Int) < (n : Int) := by omega
  have hb : b < w.heap.size := World.block_lt_of_cell? w _ h1
  have h' := cell_al h (.cells #[.slice none 0 0, .slice none 0 0] 190)
  go_enter Try.func118, Try.ntmps118
  go_wp2_with (go_at_call 112; refine (is_raw a n v A c _ hv h').mono ?_; rintro e w1 ⟨rfl, rfl⟩)
  refine bodyPost_ret (v := .agg #[.slice A1 n1 k1, .slice A2 n2 k2]) (by simp [results, Try.results118, go_sem]) rfl ⟨rfl, ?_⟩
  exact (Mod.refl _ _).alloc _

theorem Sl.form {w : World} {F : List Nat} {v : Value} {n : Nat} {xs : List Value} (h : Sl w F v n xs) : ∃ A c, v = .slice A n c ∧ n ≤ c ∧ c ≤ 9223372036854775807 := by
  rcases h with ⟨rfl, rfl, _⟩ | ⟨b, o, cap, rfl, h1, h2, _⟩
  · exact ⟨_, _, rfl, Nat.le_refl _, by omega⟩
  · exact ⟨_, _, rfl, h1, h2⟩
theorem Sl.cap {w : World} {F : List Nat} {A : Option Addr} {n c : Nat} {xs : List Value} (h : Sl w F (.slice A n c) n xs) : Sl w F (.slice A n n) n xs := by
  rcases h with ⟨h1, rfl, rfl⟩ | ⟨b, o, cap, h1, h2, h3, h4, h5, h6⟩
  · injection h1 with e1 e2 e3; subst e1; exact .inl ⟨rfl, rfl, rfl⟩
  · injection h1 with e1 e2 e3; subst e1; exact .inr ⟨b, o, n, rfl, Nat.le_refl _, by omega, h4, h5, h6⟩

set_option maxHeartbeats 400000 in
theorem list_raw (x y : Value) (A : Option Addr) (n c : Nat) (xs : List Value) (F : List Nat) (w : World) (hx : x = .slice A n c) (hn : n < 1000000000) (hl : xs.length = n * 1) (h1 : ∀ u ∈ xs, u.oneCell' = true) (h : Sl w F x n xs) (hnc : n ≤ c) (_hcc : c ≤ 9223372036854775807) :
    Calls Try.prog 117 #[.agg #[x, y]] w fun e w' => ∃ v', e = .returned v' ∧ w'.ownsRow 0 3 1 v' n xs ∧ Mod [] w w' ∧ ∀ k, v'.ownBlock = some k → w.heap.size ≤ k := by
  subst hx
  have HS := Lib.hid h
  have H1 := Lib.hid h1
  have HL := Lib.hid hl
  clear h h1 hl
  have b1 : (n : Int) ≤ (c : Int) := by omega
  go_enter Try.func117, Try.ntmps117
  go_wp2_with fail
  refine (cloneInt_calls (HS.out.cap.mod ((Mod.refl [] w).alloc _) (fun _ _ => by simp)) hn HL.out H1.out).mono ?_
  rintro e w1 ⟨v', rfl, ho, hm, hf⟩
  have HO := Lib.hid ho
  have HM := Lib.hid (((Mod.refl [] w).alloc (.cells #[.slice A n c, y] 190)).trans hm)
  have hf' : ∀ k, v'.ownBlock = some k → w.heap.size ≤ k := fun k hk => by have := hf k hk; simp at this; omega
  have HF := Lib.hid hf'
  clear ho hm hf hf'
  go_wp2_with fail
  go_ret
  exact ⟨_, rfl, HO.out, HM.out, HF.out⟩

theorem ints_one (l : List Int) : ∀ u ∈ ints l, u.oneCell' = true := by
  intro u hu
  simp only [ints, List.mem_map] at hu
  obtain ⟨x, _, rfl⟩ := hu
  rfl

set_option maxHeartbeats 400000 in
/-- The edges from a vertex. -/
theorem out_calls {w : World} {F : List Nat} {a n : Nat} {O I : Nat → List Int} (h : AdjR w F a n O I) (v : Nat) (x : Int) (hx : x = v) (hv : v < n) :
    Calls Try.prog 84 #[.pointer (some ⟨a, 0, none⟩), .int .i64 x] w fun e w' => ∃ u, e = .returned u ∧ w'.ownsRow 0 3 1 u (O v).length (ints (O v)) ∧ Mod [] w w' ∧ ∀ k, u.ownBlock = some k → w.heap.size ≤ k := by
  subst hx
  obtain ⟨hn, ob, ib, ev, VO, VI, h1, h2, h3, h4, h5, h6, h7, h8⟩ := h
  obtain ⟨hl, hs, A2, m2, k2, e2⟩ := h7 v hv
  have c2 : w.cell? ⟨a, 2, none⟩ = some (.slice (some ⟨ob, 0, none⟩) n n) := h1.get rfl
  have c3 : w.cell? ⟨a, 3, none⟩ = some (.slice (some ⟨ib, 0, none⟩) n n) := h1.get rfl
  obtain ⟨A1, k1, e1, g1, g1'⟩ := hs.form
  have t1 := h2.get (tab_get hv).1
  have t2 := h2.get (tab_get hv).2
  rw [e1] at t1 hs
  rw [e2] at t2
  have HS := Lib.hid hs
  clear h1 h2 h3 h4 h5 h6 h7 h8 hs e1 e2
  go_enter Try.func84, Try.ntmps84
  go_wp2_with (go_at_call 118; refine (side_raw a ob n v _ _ _ _ _ _ _ _ _ hv c2 t1 t2).mono ?_; rintro e w1 ⟨rfl, hm⟩)
  have HM := Lib.hid hm
  clear hm
  refine (list_raw _ _ A1 (O v).length k1 (ints (O v)) F _ rfl hl (by simp [ints]) (ints_one _) (HS.out.mod HM.out (fun _ _ => by simp)) g1 g1').mono ?_
  rintro e w2 ⟨u, rfl, ho, hm, hf⟩
  have HO := Lib.hid ho
  have HM2 := Lib.hid hm
  have HF := Lib.hid hf
  clear ho hm hf
  go_wp2_with fail
  go_ret
  exact ⟨_, rfl, HO.out, HM.out.trans HM2.out, fun k hk => Nat.le_trans HM.out.size (HF.out k hk)⟩

set_option maxHeartbeats 400000 in
/-- The edges to a vertex. -/
theorem in_calls {w : World} {F : List Nat} {a n : Nat} {O I : Nat → List Int} (h : AdjR w F a n O I) (v : Nat) (x : Int) (hx : x = v) (hv : v < n) :
    Calls Try.prog 96 #[.pointer (some ⟨a, 0, none⟩), .int .i64 x] w fun e w' => ∃ u, e = .returned u ∧ w'.ownsRow 0 3 1 u (I v).length (ints (I v)) ∧ Mod [] w w' ∧ ∀ k, u.ownBlock = some k → w.heap.size ≤ k := by
  subst hx
  obtain ⟨hn, ob, ib, ev, VO, VI, h1, h2, h3, h4, h5, h6, h7, h8⟩ := h
  obtain ⟨hl, hs, A2, m2, k2, e2⟩ := h8 v hv
  have c2 : w.cell? ⟨a, 2, none⟩ = some (.slice (some ⟨ob, 0, none⟩) n n) := h1.get rfl
  have c3 : w.cell? ⟨a, 3, none⟩ = some (.slice (some ⟨ib, 0, none⟩) n n) := h1.get rfl
  obtain ⟨A1, k1, e1, g1, g1'⟩ := hs.form
  have t1 := h3.get (tab_get hv).1
  have t2 := h3.get (tab_get hv).2
  rw [e1] at t1 hs
  rw [e2] at t2
  have HS := Lib.hid hs
  clear h1 h2 h3 h4 h5 h6 h7 h8 hs e1 e2
  go_enter Try.func96, Try.ntmps96
  go_wp2_with (go_at_call 118; refine (side_raw a ib n v _ _ _ _ _ _ _ _ _ hv c2 t1 t2).mono ?_; rintro e w1 ⟨rfl, hm⟩)
  have HM := Lib.hid hm
  clear hm
  refine (list_raw _ _ A1 (I v).length k1 (ints (I v)) F _ rfl hl (by simp [ints]) (ints_one _) (HS.out.mod HM.out (fun _ _ => by simp)) g1 g1').mono ?_
  rintro e w2 ⟨u, rfl, ho, hm, hf⟩
  have HO := Lib.hid ho
  have HM2 := Lib.hid hm
  have HF := Lib.hid hf
  clear ho hm hf
  go_wp2_with fail
  go_ret
  exact ⟨_, rfl, HO.out, HM.out.trans HM2.out, fun k hk => Nat.le_trans HM.out.size (HF.out k hk)⟩
end Go.Proofs.Ytekeondobdjppaa
