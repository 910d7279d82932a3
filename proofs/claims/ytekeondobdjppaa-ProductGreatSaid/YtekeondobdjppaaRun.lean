/- Runs of machines, routes held right: walks of ref7.Go, ref7.Run, law9.Right. -/
import Derived.Test.YtekeondobdjppaaWalk
namespace Go.Proofs.Ytekeondobdjppaa
open Go.RowKit

set_option maxRecDepth 100000 in
set_option maxHeartbeats 1000000 in
theorem go_calls {w : World} {F G : List Nat} {nv lv : Value} (A3 : Option Addr) (l3 c3 : Nat) {D : Dm} {wd : List Nat} (hD : DmOk D) (hN : Sl w F nv D.S (nxCells D D.S)) (hW : Sl w G lv wd.length (ints (castL wd))) (hm : ∀ m ∈ wd, m < 5) (hl : wd.length ≤ 1000000000) (s : Nat) (x : Int) (hx : x = s) (hs : s < D.S) :
    Calls Try.prog 99 #[.agg #[nv, .slice A3 l3 c3], .int .i64 x, lv] w fun e w' => e = .returned (.int .i64 (runD D s wd)) ∧ Mod [] w w' := by
  subst hx
  obtain ⟨A1, c1, rfl, g1, g1'⟩ := hN.form
  obtain ⟨A2, c2, rfl, g2, g2'⟩ := hW.form
  have HN := Lib.hid hN
  have HW := Lib.hid hW
  have HD := Lib.hid hD
  have HM := Lib.hid hm
  have HS := Lib.hid hs
  clear hN hW hD hm
  have k2 : decide (D.S ≤ s) = false := by simp; omega
  go_enter Try.func99, Try.ntmps99
  go_wp2_with fail
  have hB0 := Blk.new w #[.slice A1 D.S c1, .slice A3 l3 c3] 33
  have M0 : Mod [] w (w.alloc (.cells #[.slice A1 D.S c1, .slice A3 l3 c3] 33)) := (Mod.refl _ _).alloc _
  generalize (w.alloc (.cells #[.slice A1 D.S c1, .slice A3 l3 c3] 33)) = W0 at hB0 M0 ⊢
  generalize w.heap.size = B at hB0 ⊢
  have HB0 := Lib.hid hB0
  have HM0 := Lib.hid M0
  clear hB0 M0 k2 hs
  obtain ⟨wo, rfl⟩ : ∃ wo : World, wo = W0 := ⟨_, rfl⟩
  go_loopw [7, 1] (fun i f wr => ∃ (k : Nat), k ≤ wd.length ∧ i = .int .i64 k ∧ Hid (f = .int .i64 (runD D s (wd.take k))) ∧ Hid (runD D s (wd.take k) < D.S) ∧ Hid (Mod [] wo wr)) (fun i _ _ => wd.length - (intOf i).toNat)
  case atStart => exact ⟨0, Nat.zero_le _, rfl, rfl, HS, Mod.refl _ _⟩
  case round =>
    obtain ⟨k, hk, rfl, HF, HR, HM1⟩ := hrel
    obtain rfl := HF.out
    clear HF
    have b0 : (0 : Int) ≤ (k : Int) := by omega
    by_cases hlt : k < wd.length
    · obtain ⟨m, hx⟩ : ∃ x, wd[k]? = some x := ⟨_, List.getElem?_eq_getElem hlt⟩
      have hm5 := HM.out m (List.mem_of_getElem? hx)
      have hrun := HR.out
      have hsn : runD D s (wd.take (k + 1)) = D.nx (runD D s (wd.take k)) m := by rw [take_snoc' hx, runD_snoc]
      have hlt2 := HD.out.2.2 _ _ hrun hm5
      rw [← hsn] at hlt2
      obtain ⟨s0, hs0⟩ : ∃ s0, runD D s (wd.take k) = s0 := ⟨_, rfl⟩
      rw [hs0] at hrun hsn
      rw [hs0]
      have hMw := HM0.out.trans HM1.out
      rcases HW.out with ⟨_, h0, _⟩ | ⟨lb, lo, c', hv1, _, _, _, hbl, hcell⟩
      · omega
      injection hv1 with hv1 hv2 hv3
      subst hv1
      have t0 : wr.cell? ⟨lb, lo + k, none⟩ = some (.int .i64 m) := hMw.cell (hcell k _ (by simp [ints, castL, hx])) (by simp)
      clear hcell hv2 hv3
      rcases HN.out with ⟨_, h0, _⟩ | ⟨nb, no, c', hv1, _, _, _, hbl2, hcell⟩
      · omega
      injection hv1 with hv1 hv2 hv3
      subst hv1
      have t1 := hMw.cell (hcell _ _ (nxCells_get D hrun hm5)) (by simp)
      rw [← Nat.add_assoc] at t1
      have p0 : wr.cell? ⟨B, 0, none⟩ = some (.slice (some ⟨nb, no, none⟩) D.S c1) := HM1.out.cell (HB0.out.get rfl) (by simp)
      have zB : B < wr.heap.size := World.block_lt_of_cell? wr _ p0
      obtain ⟨s1, hs1⟩ : ∃ s1, D.nx s0 m = s1 := ⟨_, rfl⟩
      rw [hs1] at t1 hsn
      rw [hsn] at hlt2
      have HSN := Lib.hid hsn
      clear hcell hv2 hv3 hMw hx hsn hs0 hs1
      have b1 : (k : Int) < (wd.length : Int) := by omega
      have b2 : (0 : Int) ≤ (m : Int) := by omega
      have b3 : (m : Int) < 5 := by omega
      have b4 : decide (5 ≤ m) = false := by simp; omega
      have b5 : (0 : Int) ≤ (s0 : Int) := by omega
      have b6 : (s0 : Int) < (D.S : Int) := by omega
      go_wp2_with fail
      go_quiet (fail)
      go_wp2_with fail
      refine ⟨⟨k + 1, by omega, by go_num, by rw [HSN.out]; rfl, by rw [HSN.out]; exact hlt2, HM1.out.drewN _⟩, by simp [intOf]; omega⟩
    · obtain rfl : k = wd.length := by omega
      rw [List.take_length]
      go_wp2_with fail
      go_ret
      exact ⟨rfl, HM0.out.trans HM1.out⟩

set_option maxRecDepth 100000 in
set_option maxHeartbeats 1000000 in
theorem run_calls {w : World} {F G : List Nat} {nv av lv : Value} {D : Dm} {wd : List Nat} (hD : DmOk D) (hN : Sl w F nv D.S (nxCells D D.S)) (hA : Sl w F av D.S (acCells D D.S)) (hW : Sl w G lv wd.length (ints (castL wd))) (hm : ∀ m ∈ wd, m < 5) (hl : wd.length ≤ 1000000000) :
    Calls Try.prog 65 #[.agg #[nv, av], lv] w fun e w' => e = .returned (.bool (D.ac (runD D 0 wd))) ∧ Mod [] w w' := by
  obtain ⟨A1, c1, rfl, g1, g1'⟩ := hN.form
  obtain ⟨A3, c3, rfl, g3, g3'⟩ := hA.form
  obtain ⟨A2, c2, rfl, g2, g2'⟩ := hW.form
  have HN := Lib.hid hN
  have HA := Lib.hid hA
  have HW := Lib.hid hW
  have HD := Lib.hid hD
  have HM := Lib.hid hm
  have hrun := runD_lt hD hD.1 wd hm
  clear hN hA hW hD hm
  go_enter Try.func65, Try.ntmps65
  go_wp2_with fail
  have hB0 := Blk.new w #[.slice A1 D.S c1, .slice A3 D.S c3] 33
  have M0 : Mod [] w (w.alloc (.cells #[.slice A1 D.S c1, .slice A3 D.S c3] 33)) := (Mod.refl _ _).alloc _
  generalize (w.alloc (.cells #[.slice A1 D.S c1, .slice A3 D.S c3] 33)) = W0 at hB0 M0 ⊢
  generalize w.heap.size = B at hB0 ⊢
  have HB0 := Lib.hid hB0
  have HM0 := Lib.hid M0
  clear hB0 M0
  refine (go_calls A3 D.S c3 HD.out (HN.out.mod HM0.out (fun _ _ => by simp)) (HW.out.mod HM0.out (fun _ _ => by simp)) HM.out hl 0 0 rfl HD.out.1).mono ?_
  rintro e w1 ⟨rfl, hm1⟩
  obtain ⟨s0, hs0⟩ : ∃ s0, runD D 0 wd = s0 := ⟨_, rfl⟩
  rw [hs0] at hrun
  rw [hs0]
  rcases HA.out with ⟨_, h0, _⟩ | ⟨ab, ao, c', hv1, _, _, _, hbl2, hcell⟩
  · omega
  injection hv1 with hv1 hv2 hv3
  subst hv1
  have t1 := (HM0.out.trans hm1).cell (hcell s0 _ (acCells_get D hrun)) (by simp)
  have p1 : w1.cell? ⟨B, 1, none⟩ = some (.slice (some ⟨ab, ao, none⟩) D.S c3) := hm1.cell (HB0.out.get rfl) (by simp)
  have zB : B < w1.heap.size := World.block_lt_of_cell? w1 _ p1
  have HM1 := Lib.hid (HM0.out.trans hm1)
  have HS0 := Lib.hid hs0
  have b5 : (0 : Int) ≤ (s0 : Int) := by omega
  have b6 : (s0 : Int) < (D.S : Int) := by omega
  clear hcell hv2 hv3 hm1 hs0
  go_wp2_with fail
  go_ret
  rw [HS0.out]
  exact ⟨rfl, HM1.out⟩

/-- A route that is right. -/
theorem right_calls {w : World} {F G : List Nat} {n v u : Nat} {ev : Value} {E : List Ed} {nv av lv : Value} {D : Dm} {L wd : List Nat} {r : Int} (h : Given w F n ev E nv av D) (hL : Sl w G lv L.length (ints (castL L))) (hLl : L.length ≤ 1000000) (hw : Wlk E v L u r wd) (hac : D.ac (runD D 0 wd) = true) (hv : v < n) (hu : u < n) (x y c : Int) (hx : x = v) (hy : y = u) (hc : c = r) :
    Calls Try.prog 31 #[.agg #[.int .i64 n, ev], .agg #[nv, av], .int .i64 x, .int .i64 y, .agg #[.int .i64 r, lv], .int .i64 c] w fun e w' => e = .returned (.bool true) ∧ Mod [] w w' := by
  subst hx
  subst hy
  subst hc
  obtain ⟨A1, c1, e1, -, -⟩ := h.e.form
  obtain ⟨A2, c2, e2, -, -⟩ := h.nx.form
  obtain ⟨A3, c3, e3, -, -⟩ := h.ac.form
  obtain ⟨A4, c4, rfl, -, -⟩ := hL.form
  subst e1 e2 e3
  have HG := Lib.hid h
  have HL := Lib.hid hL
  have HW := Lib.hid hw
  have HAC := Lib.hid hac
  have hwl : wd.length = L.length := by
    have h1 := wkF_word E v L
    rw [hw.at.1] at h1
    exact h1
  have HWL := Lib.hid hwl
  clear h hL hw hac hwl
  go_enter Try.func31, Try.ntmps31
  go_wp2_with fail
  have hB1 := (Blk.new' (w := w.alloc (.cells #[.int .i64 n, .slice A1 E.length c1] 28)) #[.slice A2 D.S c2, .slice A3 D.S c3] 33 (k := w.heap.size + 1) (by simp)).alloc (.cells #[.int .i64 c, .slice A4 L.length c4] 55)
  have hB2 := Blk.new' (w := (w.alloc (.cells #[.int .i64 n, .slice A1 E.length c1] 28)).alloc (.cells #[.slice A2 D.S c2, .slice A3 D.S c3] 33)) #[.int .i64 c, .slice A4 L.length c4] 55 (k := w.heap.size + 1 + 1) (by simp)
  have M0 : Mod [] w (((w.alloc (.cells #[.int .i64 n, .slice A1 E.length c1] 28)).alloc (.cells #[.slice A2 D.S c2, .slice A3 D.S c3] 33)).alloc (.cells #[.int .i64 c, .slice A4 L.length c4] 55)) := (((Mod.refl _ _).alloc _).alloc _).alloc _
  generalize (((w.alloc (.cells #[.int .i64 n, .slice A1 E.length c1] 28)).alloc (.cells #[.slice A2 D.S c2, .slice A3 D.S c3] 33)).alloc (.cells #[.int .i64 c, .slice A4 L.length c4] 55)) = W0 at hB1 hB2 M0 ⊢
  obtain ⟨B2, hb2⟩ : ∃ B, w.heap.size + 1 + 1 = B := ⟨_, rfl⟩
  obtain ⟨B1, hb1⟩ : ∃ B, w.heap.size + 1 = B := ⟨_, rfl⟩
  rw [hb1] at hB1
  rw [hb2] at hB2
  simp only [hb2]
  simp only [hb1]
  have HB1 := Lib.hid hB1
  have HB2 := Lib.hid hB2
  have HM0 := Lib.hid M0
  clear hB1 hB2 M0 hb1 hb2
  refine (walk_calls (HG.out.e.mod HM0.out (fun _ _ => by simp)) HG.out.ok (HL.out.mod HM0.out (fun _ _ => by simp)) hLl HW.out hv hu v u rfl rfl).mono ?_
  rintro e w1 ⟨wv, rfl, ho1, hm1, hf1⟩
  have q0 : w1.cell? ⟨B1, 0, none⟩ = some (.slice A2 D.S c2) := hm1.cell (HB1.out.get rfl) (by simp)
  have q1 : w1.cell? ⟨B1, 1, none⟩ = some (.slice A3 D.S c3) := hm1.cell (HB1.out.get rfl) (by simp)
  have q2 : w1.cell? ⟨B2, 0, none⟩ = some (.int .i64 c) := hm1.cell (HB2.out.get rfl) (by simp)
  have z1 : B1 < w1.heap.size := World.block_lt_of_cell? w1 _ q0
  have z2 : B2 < w1.heap.size := World.block_lt_of_cell? w1 _ q2
  have HO := Lib.hid ho1
  have HM1 := Lib.hid (HM0.out.trans hm1)
  clear ho1 hm1 hf1
  go_wp2_with fail
  refine (run_calls HG.out.d (HG.out.nx.mod HM1.out (fun _ _ => by simp)) (HG.out.ac.mod HM1.out (fun _ _ => by simp)) (Sl.of_own HO.out) (HW.out.mode HG.out.ok) (by have := HWL.out; omega)).mono ?_
  rintro e w2 ⟨rfl, hm2⟩
  rw [HAC.out]
  have HM2 := Lib.hid (HM1.out.trans hm2)
  clear hm2
  go_wp2_with fail
  go_ret
  exact ⟨rfl, HM2.out⟩
end Go.Proofs.Ytekeondobdjppaa
