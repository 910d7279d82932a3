/- The best spot of a vertex, the edges by which a spot was found: walks. -/
import Derived.Test.YtekeondobdjppaaBegin
import Derived.Test.YtekeondobdjppaaDijB
import Derived.Deep.LoopGhost
import Derived.Deep.QuietTactic
import Derived.BigQuiet
namespace Go.Proofs.Ytekeondobdjppaa
open Go.RowKit

theorem isBest_zero (D : Dm) (c : Nat → Int) (v : Nat) : IsBest D c v 0 (-1) := Or.inl ⟨rfl, fun q hq => by omega⟩
theorem isBest_take {D : Dm} {c : Nat → Int} {v k : Nat} {r : Int} (h : IsBest D c v k r) (ha : D.ac k = true) (h0 : 0 ≤ c (v * D.S + k)) (hr : ∀ o : Nat, r = o → c (v * D.S + k) < c o) : IsBest D c v (k + 1) ((v * D.S + k : Nat) : Int) := by
  refine Or.inr ⟨k, by omega, rfl, ha, h0, fun q hq hqa hq0 => ?_⟩
  by_cases e : q = k
  · subst e; exact Int.le_refl _
  · rcases h with ⟨h1, h2⟩ | ⟨q0, h1, h2, h3, h4, h5⟩
    · have := h2 q (by omega) hqa; omega
    · have a := h5 q (by omega) hqa hq0
      have b := hr _ h2
      omega
theorem isBest_skip {D : Dm} {c : Nat → Int} {v k : Nat} {r : Int} (h : IsBest D c v k r) (hs : D.ac k = false ∨ c (v * D.S + k) < 0 ∨ ∃ o : Nat, r = o ∧ c o ≤ c (v * D.S + k)) : IsBest D c v (k + 1) r := by
  rcases h with ⟨h1, h2⟩ | ⟨q0, h1, h2, h3, h4, h5⟩
  · refine Or.inl ⟨h1, fun q hq hqa => ?_⟩
    by_cases e : q = k
    · subst e
      rcases hs with h | h | ⟨o, h, _⟩
      · rw [hqa] at h; cases h
      · exact h
      · omega
    · exact h2 q (by omega) hqa
  · refine Or.inr ⟨q0, by omega, h2, h3, h4, fun q hq hqa hq0 => ?_⟩
    by_cases e : q = k
    · subst e
      rcases hs with h | h | ⟨o, h, h6⟩
      · rw [hqa] at h; cases h
      · omega
      · have e2 : o = v * D.S + q0 := by omega
        subst e2
        exact h6
    · exact h5 q (by omega) hqa hq0
theorem isBest_lt {D : Dm} {c : Nat → Int} {v k n : Nat} {r : Int} (hv : v < n) (hk : k ≤ D.S) (h : IsBest D c v k r) : r = -1 ∨ ∃ o : Nat, r = o ∧ o < n * D.S ∧ 0 ≤ c o := by
  rcases h with ⟨h1, _⟩ | ⟨q, h1, h2, _, h3, _⟩
  · exact Or.inl h1
  · have h4 : (v + 1) * D.S ≤ n * D.S := Nat.mul_le_mul_right _ hv
    rw [Nat.add_mul] at h4
    exact Or.inr ⟨_, h2, by omega, h3⟩

set_option maxRecDepth 100000 in
set_option maxHeartbeats 2000000 in
theorem best_calls {w : World} {sp cb eb fb q : Nat} {Fq Fg : List Nat} {fn : Value} {g n : Nat} {E : List Ed} {D : Dm} {st : St} {l : Int} (h : Se w sp cb eb fb q Fq Fg fn g n E D st l) (v : Nat) (x : Int) (hx : x = v) (hv : v < n) :
    Calls Try.prog 47 #[.pointer (some ⟨sp, 0, none⟩), .int .i64 x] w fun e w' => ∃ r, e = .returned (.int .i64 r) ∧ IsBest D st.c v D.S r ∧ Mod [] w w' := by
  subst hx
  have q0 : w.cell? ⟨sp, 0, none⟩ = some (.pointer (some ⟨g, 0, none⟩)) := h.b.get rfl
  have zs : sp < w.heap.size := h.b.lt
  obtain ⟨hn60, hn0, _, _, hD, ev, nv, av, a, bb, VB, k1, k2, hE, hNx, hAc, hA, k7, k8, k9⟩ := h.g
  obtain ⟨A2, c2, rfl, g2, g2'⟩ := hNx.form
  obtain ⟨A3, c3, rfl, g3, g3'⟩ := hAc.form
  have p3 : w.cell? ⟨g, 3, none⟩ = some (.slice A2 D.S c2) := k1.get rfl
  have p4 : w.cell? ⟨g, 4, none⟩ = some (.slice A3 D.S c3) := k1.get rfl
  have zg : g < w.heap.size := k1.lt
  obtain ⟨N, hN⟩ : ∃ N, n * D.S = N := ⟨_, rfl⟩
  have hNb : N ≤ 120000 := by rw [← hN]; exact Nat.le_trans (Nat.mul_le_mul hn60 hD.2.1) (by omega)
  have q3 : w.cell? ⟨sp, 3, none⟩ = some (.slice (some ⟨cb, 0, none⟩) N N) := hN ▸ h.b.get rfl
  have zc : cb < w.heap.size := h.c.lt
  have HN := Lib.hid hN
  have HC := Lib.hid h.c
  have HAC := Lib.hid hAc
  clear h hE hNx hAc hA k1 k2 k7 k8 k9 hD hN
  obtain ⟨wo, rfl⟩ : ∃ wo : World, wo = w := ⟨_, rfl⟩
  go_enter Try.func47, Try.ntmps47
  go_wp2_with fail
  go_loopw [18, 5] (fun u o wr => ∃ (k : Nat) (r : Int), k ≤ D.S ∧ u = .int .i64 k ∧ o = .int .i64 r ∧ Hid (IsBest D st.c v k r) ∧ Hid (Mod [] wo wr)) (fun u _ _ => D.S - (intOf u).toNat)
  case atStart => exact ⟨0, -1, Nat.zero_le _, rfl, rfl, isBest_zero _ _ _, Mod.refl _ _⟩
  case round =>
    obtain ⟨k, r, hk, rfl, rfl, HB, HM⟩ := hrel
    by_cases hlt : k < D.S
    · rcases HAC.out with ⟨_, h0, _⟩ | ⟨hb, ho, c', hv1, _, _, _, hbl, hcell⟩
      · omega
      injection hv1 with hv1 hv2 hv3
      subst hv1
      have t0 := HM.out.cell (hcell k _ (acCells_get D hlt)) (by simp)
      have r0 := HM.out.cell q0 (by simp)
      have r3 := HM.out.cell q3 (by simp)
      have s3 := HM.out.cell p3 (by simp)
      have z1 : sp < wr.heap.size := Nat.lt_of_lt_of_le zs HM.out.size
      have z2 : cb < wr.heap.size := Nat.lt_of_lt_of_le zc HM.out.size
      have b3 : (0 : Int) ≤ (k : Int) := by omega
      have b4 : (k : Int) < (D.S : Int) := by omega
      have hid : v * D.S + k < N := by
        have h1 : (v + 1) * D.S ≤ n * D.S := Nat.mul_le_mul_right _ hv
        rw [Nat.add_mul, HN.out] at h1
        omega
      have hidr := id_raw g D.S v k A2 c2 wr s3 (by omega)
      have htake := isBest_take (k := k) HB.out
      have hskip := isBest_skip (k := k) HB.out
      have hrl := isBest_lt hv hk HB.out
      rw [HN.out] at hrl
      obtain ⟨tt, htt⟩ : ∃ tt, v * D.S + k = tt := ⟨_, rfl⟩
      rw [htt] at hidr hid htake hskip
      have HID := Lib.hid hidr
      have HT := Lib.hid htake
      have HSK := Lib.hid hskip
      have qc : wr.cell? ⟨cb, tt, none⟩ = some (.int .i64 (st.c tt)) := HM.out.cell (HC.out.get (rowI_get (HN.out ▸ hid))) (by simp)
      have b5 : (0 : Int) ≤ (tt : Int) := by omega
      have b6 : (tt : Int) < (N : Int) := by omega
      clear hcell hv2 hv3 hidr htake hskip htt
      go_wp2_with fail
      refine HID.out.mono ?_
      rintro e w1 ⟨rfl, hm1⟩
      have HM1 := Lib.hid (HM.out.trans hm1)
      have u3 := hm1.cell r3 (by simp)
      have uc := hm1.cell qc (by simp)
      have z1 : sp < w1.heap.size := Nat.lt_of_lt_of_le z1 hm1.size
      have z2 : cb < w1.heap.size := Nat.lt_of_lt_of_le z2 hm1.size
      clear hm1 r0 r3 s3 qc t0 HM HID
      go_wp2_with fail
      cases hac : D.ac k with
      | false =>
        go_quiet (fail)
        all_goals go_wp2_with fail
        refine ⟨⟨k + 1, r, by omega, by go_num, rfl, HSK.out (Or.inl hac), HM1.out.drewN _⟩, by simp [intOf]; omega⟩
      | true =>
        by_cases hc : st.c tt < 0
        · have hd : decide (0 ≤ st.c tt) = false := by simpa using hc
          go_quiet (fail)
          all_goals go_wp2_with fail
          refine ⟨⟨k + 1, r, by omega, by go_num, rfl, HSK.out (Or.inr (Or.inl hc)), HM1.out.drewN _⟩, by simp [intOf]; omega⟩
        · have hc0 : 0 ≤ st.c tt := by omega
          rcases hrl with rfl | ⟨o, rfl, ho2, ho3⟩
          · go_quiet (fail)
            all_goals go_wp2_with fail
            refine ⟨⟨k + 1, (tt : Int), by omega, by go_num, rfl, HT.out hac hc0 (fun o e => by omega), HM1.out.drewN _⟩, by simp [intOf]; omega⟩
          · have uo : w1.cell? ⟨cb, o, none⟩ = some (.int .i64 (st.c o)) := HM1.out.cell (HC.out.get (rowI_get (HN.out ▸ ho2))) (by simp)
            have b7 : (0 : Int) ≤ (o : Int) := by omega
            have b8 : (o : Int) < (N : Int) := by omega
            by_cases hlt2 : st.c tt < st.c o
            · go_quiet (fail)
              all_goals go_wp2_with fail
              refine ⟨⟨k + 1, (tt : Int), by omega, by go_num, rfl, HT.out hac hc0 (fun o' e => Int.ofNat.inj e ▸ hlt2), HM1.out.drewN _⟩, by simp [intOf]; omega⟩
            · have hd : decide (st.c tt < st.c o) = false := by simpa using hlt2
              go_quiet (fail)
              all_goals go_wp2_with fail
              refine ⟨⟨k + 1, (o : Int), by omega, by go_num, rfl, HSK.out (Or.inr (Or.inr ⟨o, rfl, by omega⟩)), HM1.out.drewN _⟩, by simp [intOf]; omega⟩
    · obtain rfl : k = D.S := by omega
      go_wp2_with fail
      go_ret
      exact ⟨r, rfl, HB.out, HM.out⟩
end Go.Proofs.Ytekeondobdjppaa
