/- The edges by which a spot was found: walks of slices.Reverse and of edges. -/
import Derived.Test.YtekeondobdjppaaBest
import Derived.Test.YtekeondobdjppaaAdj2
import Derived.Laws.OwnMore
namespace Go.Proofs.Ytekeondobdjppaa
open Go.RowKit

/-- A row whose first k ones, and last k ones, are turned about. -/
def swapped (l : List Int) (k : Nat) : Nat → Int := fun i => if i < k ∨ l.length ≤ i + k then l.getD (l.length - 1 - i) 0 else l.getD i 0
theorem rowI_of {l : List Int} {n : Nat} {f : Nat → Int} (hn : l.length = n) (h : ∀ i x, l[i]? = some x → f i = x) : rowI n f = ints l := by
  apply List.ext_getElem?
  intro i
  by_cases hi : i < n
  · obtain ⟨x, hx⟩ : ∃ x, l[i]? = some x := ⟨_, List.getElem?_eq_getElem (by omega)⟩
    rw [rowI_get hi, ints_get hx, h i x hx]
  · have h1 : (rowI n f)[i]? = none := by rw [List.getElem?_eq_none]; simp [rowI, rowsB]; omega
    have h2 : (ints l)[i]? = none := by rw [List.getElem?_eq_none]; simp [ints]; omega
    rw [h1, h2]
theorem swapped_zero {l : List Int} {n : Nat} (hn : l.length = n) : rowI n (swapped l 0) = ints l := by
  refine rowI_of hn (fun i x hx => ?_)
  have hi := (List.getElem?_eq_some_iff.1 hx).1
  simp only [swapped]
  rw [if_neg (by omega), List.getD_eq_getElem?_getD, hx]
  rfl
theorem swapped_end {l : List Int} {n : Nat} (hn : l.length = n) (k : Nat) (h : n ≤ 2 * k + 1) : rowI n (swapped l k) = ints l.reverse := by
  refine rowI_of (by simpa using hn) (fun i x hx => ?_)
  have hi := (List.getElem?_eq_some_iff.1 hx).1
  rw [List.length_reverse] at hi
  rw [List.getElem?_reverse hi] at hx
  simp only [swapped]
  by_cases h2 : i < k ∨ l.length ≤ i + k
  · rw [if_pos h2, List.getD_eq_getElem?_getD, hx]
    rfl
  · have e : l.length - 1 - i = i := by omega
    rw [e] at hx
    rw [if_neg h2, List.getD_eq_getElem?_getD, hx]
    rfl
theorem swapped_step (l : List Int) (k : Nat) (h : 2 * k + 1 < l.length) : updF (updF (swapped l k) k (swapped l k (l.length - 1 - k))) (l.length - 1 - k) (swapped l k k) = swapped l (k + 1) := by
  funext i
  simp only [updF]
  by_cases h1 : i = l.length - 1 - k
  · rw [if_pos h1]
    simp only [swapped]
    rw [if_neg (by omega), if_pos (by omega), h1]
    congr 1
    omega
  · rw [if_neg h1]
    by_cases h2 : i = k
    · rw [if_pos h2]
      simp only [swapped]
      rw [if_neg (by omega), if_pos (by omega), h2]
    · rw [if_neg h2]
      simp only [swapped]
      by_cases h3 : i < k ∨ l.length ≤ i + k
      · rw [if_pos h3, if_pos (by omega)]
      · rw [if_neg h3, if_neg (by omega)]

set_option maxRecDepth 100000 in
set_option maxHeartbeats 1000000 in
theorem rev_raw (b cap n : Nat) (l : List Int) (w : World) (hnl : l.length = n) (hn : n < 1000000000) (hO : w.ownsRow 0 3 1 (.slice (some ⟨b, 0, none⟩) n cap) n (rowI n (swapped l 0))) :
    Calls Try.prog 73 #[.slice (some ⟨b, 0, none⟩) n cap] w fun e w' => e = .returned (.tuple #[]) ∧ w'.ownsRow 0 3 1 (.slice (some ⟨b, 0, none⟩) n cap) n (ints l.reverse) ∧ Mod [b] w w' := by
  obtain ⟨wo, rfl⟩ : ∃ wo : World, wo = w := ⟨_, rfl⟩
  have HO := Lib.hid hO
  have HN := Lib.hid hnl
  clear hO hnl
  go_enter Try.func73, Try.ntmps73
  go_wp2_with fail
  go_loopw [2, 3] (fun u v wr => ∃ k : Nat, 2 * k ≤ n + 1 ∧ u = .int .i64 k ∧ v = .int .i64 ((n : Int) - 1 - k) ∧ Hid (wr.ownsRow 0 3 1 (.slice (some ⟨b, 0, none⟩) n cap) n (rowI n (swapped l k))) ∧ Hid (Mod [b] wo wr)) (fun u _ _ => n - (intOf u).toNat)
  case atStart => exact ⟨0, by omega, rfl, by go_num, HO, Mod.refl _ _⟩
  case round =>
    obtain ⟨k, hk, rfl, rfl, HR, HM⟩ := hrel
    by_cases hlt : 2 * k + 1 < n
    · obtain ⟨j, hj⟩ : ∃ j : Nat, j + k + 1 = n := ⟨n - 1 - k, by omega⟩
      have e1 : (n : Int) - 1 - k = (j : Int) := by omega
      rw [e1]
      have hlt1 : (k : Int) < (j : Int) := by omega
      have b1 : (0 : Int) ≤ (k : Int) := by omega
      have b2 : (j : Int) < (n : Int) := by omega
      have b3 : (k : Int) < (n : Int) := by omega
      have b4 : (0 : Int) ≤ (j : Int) := by omega
      have c1 : wr.cell? ⟨b, k, none⟩ = some (.int .i64 (swapped l k k)) := (World.ownsRow.cellAt HR.out k (by omega)).trans (rowI_get (by omega))
      have c2 : wr.cell? ⟨b, j, none⟩ = some (.int .i64 (swapped l k j)) := (World.ownsRow.cellAt HR.out j (by omega)).trans (rowI_get (by omega))
      have f1 := World.ownsRow.frozenAt HR.out k
      have f2 := World.ownsRow.frozenAt HR.out j
      have z1 : b < wr.heap.size := World.block_lt_of_cell? wr _ c1
      have hne : k ≠ j := by omega
      have E1 := Lib.hid e1
      clear e1
      go_wp2_with fail
      go_region
      all_goals go_wp2_with fail
      refine ⟨⟨k + 1, by omega, by go_num, congrArg (Value.int .i64) (by omega), ?_, ((HM.out.setCell (p := ⟨b, k, none⟩) (Or.inl (by simp)) _).setCell (p := ⟨b, j, none⟩) (Or.inl (by simp)) _).drew⟩, by simp [intOf]; omega⟩
      have h1 := (World.ownsRow.stored HR.out k (.int .i64 (swapped l k j))).1
      have h2 := (World.ownsRow.stored h1 j (.int .i64 (swapped l k k))).1
      rw [rowI_set, rowI_set] at h2
      have e : j = l.length - 1 - k := by rw [HN.out]; omega
      have h3 := swapped_step l k (by rw [HN.out]; exact hlt)
      rw [← e] at h3
      rw [h3] at h2
      exact h2.drew
    · have hge : ((n : Int) - 1 - k) ≤ (k : Int) := by omega
      go_wp2_with fail
      go_end0
      have h1 := HR.out
      rw [swapped_end HN.out k (by omega)] at h1
      exact ⟨rfl, h1, HM.out⟩

set_option maxRecDepth 100000 in
set_option maxHeartbeats 1000000 in
theorem rev_nil (w : World) : Calls Try.prog 73 #[.slice none 0 0] w fun e w' => e = .returned (.tuple #[]) ∧ w = w' := by
  go_enter Try.func73, Try.ntmps73
  go_wp2_with fail
  go_loop [2, 3] (fun u v => u = .int .i64 0 ∧ v = .int .i64 (-1)) (fun _ _ => 0)
  case atStart => exact ⟨rfl, rfl⟩
  case round =>
    obtain ⟨rfl, rfl⟩ := hrel
    go_wp2_with fail
    go_end0
    exact ⟨rfl, rfl⟩

theorem rev_calls {w : World} {v : Value} {l : List Int} {n : Nat} (hnl : l.length = n) (hn : n < 1000000000) (hO : w.ownsRow 0 3 1 v n (ints l)) :
    Calls Try.prog 73 #[v] w fun e w' => e = .returned (.tuple #[]) ∧ w'.ownsRow 0 3 1 v n (ints l.reverse) ∧ Mod v.ownBlock.toList w w' := by
  rcases hO.2 with ⟨rfl, h⟩ | ⟨b, cap, cur, rfl, _⟩
  · refine (rev_nil w).mono ?_
    rintro e w' ⟨rfl, rfl⟩
    have h1 := hO.1
    simp only [ints, List.length_map] at h1
    have e : l = [] := List.eq_nil_of_length_eq_zero (by simpa [h] using hnl)
    subst e
    exact ⟨rfl, hO, Mod.refl _ _⟩
  · rw [← swapped_zero hnl] at hO
    exact rev_raw b cap n l w hnl hn hO

/-- Edges as they are found: from the last one. -/
theorem Ch.cases {st : St} {x : Nat} {l : List Nat} (h : Ch st x l) : (st.f x = -1 ∧ l = []) ∨ ∃ (x' k : Nat) (l' : List Nat), st.f x = x' ∧ st.e x = k ∧ 0 ≤ st.c x' ∧ Ch st x' l' ∧ l = l' ++ [k] := by
  cases h with
  | nil _ h => exact Or.inl ⟨h, rfl⟩
  | snoc _ x' k l' h1 h2 h3 h4 => exact Or.inr ⟨x', k, l', h1, h2, h3, h4, rfl⟩

set_option maxRecDepth 100000 in
set_option maxHeartbeats 2000000 in
theorem edges_calls {w : World} {sp cb eb fb q : Nat} {Fq Fg : List Nat} {fn : Value} {g n : Nat} {E : List Ed} {D : Dm} {st : St} {l : Int} (h : Se w sp cb eb fb q Fq Fg fn g n E D st l) (hlt : ∀ x, 0 ≤ st.c x → x < n * D.S)
    (id : Nat) (x : Int) (hx : x = id) (hid : id < n * D.S) (L : List Nat) (hL : Ch st id L) (hl : L.length < 1000000) :
    Calls Try.prog 57 #[.pointer (some ⟨sp, 0, none⟩), .int .i64 x] w fun e w' => ∃ u, e = .returned u ∧ w'.ownsRow 0 3 1 u L.length (ints (castL L)) ∧ Mod [] w w' ∧ ∀ k, u.ownBlock = some k → w.heap.size ≤ k := by
  subst hx
  obtain ⟨N, hN⟩ : ∃ N, n * D.S = N := ⟨_, rfl⟩
  have q4 : w.cell? ⟨sp, 4, none⟩ = some (.slice (some ⟨eb, 0, none⟩) N N) := hN ▸ h.b.get rfl
  have q5 : w.cell? ⟨sp, 5, none⟩ = some (.slice (some ⟨fb, 0, none⟩) N N) := hN ▸ h.b.get rfl
  have zs : sp < w.heap.size := h.b.lt
  have ze : eb < w.heap.size := h.e.lt
  have zf : fb < w.heap.size := h.f.lt
  rw [hN] at hid hlt
  have HN := Lib.hid hN
  have HE := Lib.hid h.e
  have HF := Lib.hid h.f
  have HL := Lib.hid hL
  have HLT := Lib.hid hlt
  clear h hN hL hlt
  obtain ⟨wo, rfl⟩ : ∃ wo : World, wo = w := ⟨_, rfl⟩
  go_enter Try.func57, Try.ntmps57
  go_wp2_with fail
  go_loopg [1, 5] (L.length) (fun k u o wr => ∃ (y : Nat) (L1 L2 : List Nat), y < N ∧ u = .int .i64 y ∧ k = L1.length ∧ L1.length + L2.length = L.length ∧ Hid (L = L1 ++ L2) ∧ Hid (Ch st y L1) ∧ Hid (wr.ownsRow 0 3 1 o L2.length (ints (castL L2.reverse))) ∧ Hid (Mod [] wo wr) ∧ Hid (∀ k, o.ownBlock = some k → wo.heap.size ≤ k))
  case atStart => exact ⟨id, L, [], hid, rfl, rfl, by simp, by simp [Hid], HL, World.ownsRow_nil _ _ _ _, Mod.refl _ _, fun k hk => by simp [Value.ownBlock] at hk⟩
  case round =>
    obtain ⟨y, L1, L2, hy, rfl, rfl, hll, HA, HC, HO, HM, HB⟩ := hrel
    have r4 := HM.out.cell q4 (by simp)
    have r5 := HM.out.cell q5 (by simp)
    have xe : wr.cell? ⟨eb, y, none⟩ = some (.int .i64 (st.e y)) := HM.out.cell (HE.out.get (rowI_get (HN.out ▸ hy))) (by simp)
    have xf : wr.cell? ⟨fb, y, none⟩ = some (.int .i64 (st.f y)) := HM.out.cell (HF.out.get (rowI_get (HN.out ▸ hy))) (by simp)
    have z1 : sp < wr.heap.size := Nat.lt_of_lt_of_le zs HM.out.size
    have z2 : eb < wr.heap.size := Nat.lt_of_lt_of_le ze HM.out.size
    have z3 : fb < wr.heap.size := Nat.lt_of_lt_of_le zf HM.out.size
    have b1 : (0 : Int) ≤ (y : Int) := by omega
    have b2 : (y : Int) < (N : Int) := by omega
    rcases HC.out.cases with ⟨h1, rfl⟩ | ⟨x', k, L1', h1, h2, h3, h4, rfl⟩
    · rw [h1] at xf
      clear h1
      go_wp2_with fail
      have hL2 : L = L2 := by simpa [Hid] using HA.out
      have HL2 := Lib.hid hL2
      clear hL2
      refine (rev_calls (l := castL L2.reverse) (by simp [castL]) (by simp at hll; omega) HO.out).mono ?_
      rintro e w1 ⟨rfl, ho1, hm1⟩
      have hm2 : Mod [] wo w1 := HM.out.then hm1 (fun b hb => Or.inr (HB.out b (toList_own.1 hb)))
      have hrr : (castL L2.reverse).reverse = castL L2 := by simp [castL]
      rw [hrr] at ho1
      have HO1 := Lib.hid ho1
      have HM2 := Lib.hid hm2
      clear ho1 hm1 hm2 hrr
      go_wp2_with fail
      refine (cloneInt_calls (Sl.of_own HO1.out) (by simp at hll; omega) (by simp [ints, castL]) (ints_one _)).mono ?_
      rintro e w2 ⟨u, rfl, ho2, hm2, hf2⟩
      have HO2 := Lib.hid ho2
      have HM3 := Lib.hid (HM2.out.trans hm2)
      have HF2 : Hid (∀ k, u.ownBlock = some k → wo.heap.size ≤ k) := fun k hk => Nat.le_trans HM2.out.size (hf2 k hk)
      clear ho2 hm2 hf2
      go_wp2_with fail
      go_ret
      have e := HL2.out
      subst e
      exact ⟨u, rfl, HO2.out, HM3.out, HF2.out⟩
    · rw [h1] at xf
      rw [h2] at xe
      have hx' : x' < N := HLT.out x' h3
      have HC2 := Lib.hid h4
      have HB1 : Hid (∀ k, u5.ownBlock = some k → k ≠ sp ∧ k ≠ fb) := fun k hk => by have := HB.out k hk; omega
      clear h1 h2 h3 h4
      have b3 : (0 : Int) ≤ (x' : Int) := by omega
      simp only [List.length_append, List.length_singleton] at hll
      go_wp2_with ((at_builtin; refine list_app rfl (.tmp 21) (.tmp 29) 22 rfl appInt u5 L2.length (ints (castL L2.reverse)) rfl (own_alloc HO.out _) wr.heap.size 3 1 [.int .i64 k] rfl rfl (Blk.new wr #[.int .i64 k] 3) (by simp [Value.oneCell']) (by omega) (by omega) ?_; intro gg d1 w2 ho hg hat hlt1; have M1 : Mod u5.ownBlock.toList wr w2 := ((Mod.refl _ wr).alloc _).grown hg (fun k hk => Or.inl (toList_own.2 hk)); have r5' := M1.cell r5 (fun h => (HB1.out _ (toList_own.1 h)).1 rfl); have xf' := M1.cell xf (fun h => (HB1.out _ (toList_own.1 h)).2 rfl); have HO2 := Lib.hid ho; have HM3 := Lib.hid M1; have HT := Lib.hid hat; clear ho hg hat M1))
      go_roundg (L1'.length)
      case measure => simp
      case rel =>
        have hWs := HM.out.size
        refine ⟨x', L1', k :: L2, hx', rfl, rfl, by simp; omega, by have := HA.out; simpa [Hid] using this, HC2, ?_, HM.out.then HM3.out (fun b hb => Or.inr (HB.out b (toList_own.1 hb))), fun b hb => ?_⟩
        · have e : ints (castL (k :: L2).reverse) = ints (castL L2.reverse) ++ [Value.int .i64 k] := by simp [ints, castL]
          show World.ownsRow _ _ _ _ _ _ _
          rw [e]
          exact HO2.out
        · simp only [Value.ownBlock] at hb
          obtain rfl : gg = b := by simpa using hb
          rcases HT.out with h1 | h1
          · exact HB.out _ h1
          · simp at h1; omega
end Go.Proofs.Ytekeondobdjppaa
