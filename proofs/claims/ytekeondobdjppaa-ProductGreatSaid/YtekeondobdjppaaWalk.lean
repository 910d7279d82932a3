/- The document's walks, runs of machines: walks of ref1.Walk, ref7.Go, Run, and of Right. -/
import Derived.Test.YtekeondobdjppaaRoute
import Derived.Deep.QuietTactic
import Derived.BigQuiet
namespace Go.Proofs.Ytekeondobdjppaa
open Go.RowKit

/-- Where edges lead, what they cost, their word. -/
def wkF (E : List Ed) (v : Nat) (l : List Nat) : Nat × Int × List Nat := l.foldl (fun s k => ((edAt E k).t, s.2.1 + ((edAt E k).c : Int), s.2.2 ++ [(edAt E k).m])) (v, 0, [])
theorem wkF_snoc (E : List Ed) (v : Nat) (l : List Nat) (k : Nat) : wkF E v (l ++ [k]) = ((edAt E k).t, (wkF E v l).2.1 + ((edAt E k).c : Int), (wkF E v l).2.2 ++ [(edAt E k).m]) := by simp [wkF, List.foldl_append]
theorem Wlk.at {E : List Ed} {v : Nat} {l : List Nat} {u : Nat} {d : Int} {w : List Nat} (h : Wlk E v l u d w) : wkF E v l = (u, d, w) ∧ ∀ i k, l[i]? = some k → k < E.length ∧ (edAt E k).f = (wkF E v (l.take i)).1 := by
  induction h with
  | nil => exact ⟨rfl, fun i k h => by simp at h⟩
  | snoc l u d w k h1 h2 h3 ih =>
    refine ⟨by rw [wkF_snoc, ih.1], fun i k' hk => ?_⟩
    rcases Nat.lt_or_ge i l.length with hi | hi
    · rw [List.getElem?_append_left hi] at hk
      rw [List.take_append_of_le_length (by omega)]
      exact ih.2 i k' hk
    · rw [List.getElem?_append_right hi] at hk
      have h4 := (List.getElem?_eq_some_iff.1 hk).1
      simp only [List.length_singleton] at h4
      obtain rfl : i = l.length := by omega
      simp only [Nat.sub_self, List.getElem?_cons_zero, Option.some.injEq] at hk
      subst hk
      rw [List.take_left', ih.1]
      · exact ⟨h2, h3⟩
      · rfl
theorem wkF_cost {E : List Ed} {n : Nat} (hE : EdOk n E) (v : Nat) (l : List Nat) (hl : ∀ k ∈ l, k < E.length) : 0 ≤ (wkF E v l).2.1 ∧ (wkF E v l).2.1 ≤ (l.length : Int) * 2147483647 := by
  refine snocInd (P := fun l => (∀ k ∈ l, k < E.length) → 0 ≤ (wkF E v l).2.1 ∧ (wkF E v l).2.1 ≤ (l.length : Int) * 2147483647) (fun _ => by simp [wkF]) ?_ l hl
  intro l k ih hl
  have h1 := ih (fun k hk => hl k (by simp [hk]))
  have h2 := (hE _ (List.mem_of_getElem? (edAt_of (hl k (by simp))))).2.2.2
  rw [wkF_snoc, List.length_append, List.length_singleton]
  simp only
  omega
theorem wkF_word (E : List Ed) (v : Nat) (l : List Nat) : (wkF E v l).2.2.length = l.length := by
  refine snocInd (P := fun l => (wkF E v l).2.2.length = l.length) rfl ?_ l
  intro l k ih
  rw [wkF_snoc]
  simp [ih]

set_option maxRecDepth 100000 in
set_option maxHeartbeats 2000000 in
theorem walk_calls {w : World} {F G : List Nat} {n v u : Nat} {ev lv : Value} {E : List Ed} {L wd : List Nat} {d : Int} (hE : Sl w F ev E.length (edCells E)) (hok : EdOk n E) (hL : Sl w G lv L.length (ints (castL L))) (hLl : L.length ≤ 1000000)
    (hw : Wlk E v L u d wd) (hv : v < n) (hu : u < n) (x y : Int) (hx : x = v) (hy : y = u) :
    Calls Try.prog 64 #[.agg #[.int .i64 n, ev], .int .i64 x, .int .i64 y, lv] w fun e w' => ∃ wv, e = .returned (.tuple #[.int .i64 d, wv, .bool true]) ∧ w'.ownsRow 0 3 1 wv wd.length (ints (castL wd)) ∧ Mod [] w w' ∧ ∀ k, wv.ownBlock = some k → w.heap.size ≤ k := by
  subst hx
  subst hy
  obtain ⟨A1, c1, rfl, g1, g1'⟩ := hE.form
  obtain ⟨A2, c2, rfl, g2, g2'⟩ := hL.form
  obtain ⟨hwk, hch⟩ := hw.at
  have HE := Lib.hid hE
  have HL := Lib.hid hL
  have HOK := Lib.hid hok
  have HW := Lib.hid hwk
  have HCH := Lib.hid hch
  clear hE hL hok hw hwk hch
  have k2 : decide (n ≤ v) = false := by simp; omega
  have k4 : decide (n ≤ u) = false := by simp; omega
  go_enter Try.func64, Try.ntmps64
  go_wp2_with fail
  have hB0 := Blk.new w #[.int .i64 n, .slice A1 E.length c1] 28
  have M0 : Mod [] w (w.alloc (.cells #[.int .i64 n, .slice A1 E.length c1] 28)) := (Mod.refl _ _).alloc _
  generalize (w.alloc (.cells #[.int .i64 n, .slice A1 E.length c1] 28)) = W0 at hB0 M0 ⊢
  have HR0 : Hid (w.heap.size ≤ w.heap.size) := Nat.le_refl _
  have hws := M0.size
  obtain ⟨B, hBB⟩ : ∃ B, w.heap.size = B := ⟨_, rfl⟩
  rw [hBB] at hB0
  simp only [hBB]
  have HB0 := Lib.hid hB0
  have HM0 := Lib.hid M0
  have HLO : Hid (w.heap.size ≤ W0.heap.size) := hws
  clear hB0 M0 hws HR0 hBB
  obtain ⟨wo, rfl⟩ : ∃ wo : World, wo = W0 := ⟨_, rfl⟩
  go_loopw [13, 1, 11, 12] (fun i f c o wr => ∃ (k : Nat), k ≤ L.length ∧ i = .int .i64 k ∧ Hid (f = .int .i64 (wkF E v (L.take k)).1 ∧ c = .int .i64 (wkF E v (L.take k)).2.1) ∧ Hid (wr.ownsRow 0 3 1 o k (ints (castL (wkF E v (L.take k)).2.2))) ∧ Hid (Mod [] wo wr) ∧ Hid (∀ b, o.ownBlock = some b → wo.heap.size ≤ b)) (fun i _ _ _ _ => L.length - (intOf i).toNat)
  case atStart => exact ⟨0, Nat.zero_le _, rfl, ⟨rfl, rfl⟩, World.ownsRow_nil _ _ _ _, Mod.refl _ _, fun k hk => by simp [Value.ownBlock] at hk⟩
  case round =>
    obtain ⟨k, hk, rfl, HFC, HO, HM, HF⟩ := hrel
    obtain ⟨rfl, rfl⟩ := HFC.out
    clear HFC
    have b0 : (0 : Int) ≤ (k : Int) := by omega
    by_cases hlt : k < L.length
    · obtain ⟨x, hx⟩ : ∃ x, L[k]? = some x := ⟨_, List.getElem?_eq_getElem hlt⟩
      obtain ⟨hxE, hxf⟩ := HCH.out k x hx
      have htk := take_snoc' hx
      have hcost := wkF_cost HOK.out v (L.take k) (fun y hy => by
        obtain ⟨i, hi⟩ := List.getElem?_of_mem hy
        have hi2 := (List.getElem?_eq_some_iff.1 hi).1
        rw [List.length_take] at hi2
        rw [List.getElem?_take_of_lt (by omega)] at hi
        exact (HCH.out i y hi).1)
      have hwl := wkF_word E v (L.take k)
      rw [List.length_take_of_le hk] at hwl hcost
      have hsn := wkF_snoc E v (L.take k) x
      rw [← htk] at hsn
      have hE? := edAt_of hxE
      have heo := HOK.out _ (List.mem_of_getElem? hE?)
      obtain ⟨c0, hc0⟩ : ∃ c, (wkF E v (L.take k)).2.1 = c := ⟨_, rfl⟩
      obtain ⟨W0, hW0⟩ : ∃ W0, (wkF E v (L.take k)).2.2 = W0 := ⟨_, rfl⟩
      obtain ⟨f0, hf0⟩ : ∃ f, (wkF E v (L.take k)).1 = f := ⟨_, rfl⟩
      rw [hc0] at hcost hsn
      rw [hW0] at hwl hsn HO
      rw [hf0] at hxf
      rw [hc0, hf0]
      rcases HL.out with ⟨_, h0, _⟩ | ⟨lb, lo, c', hv1, _, _, _, hbl, hcell⟩
      · omega
      injection hv1 with hv1 hv2 hv3
      subst hv1
      have t0 : wr.cell? ⟨lb, lo + k, none⟩ = some (.int .i64 x) := (HM0.out.trans HM.out).cell (hcell k _ (by simp [ints, castL, hx])) (by simp)
      clear hcell hv2 hv3
      rcases HE.out with ⟨_, h0, _⟩ | ⟨eb, eo, c', hv1, _, _, _, hbl2, hcell⟩
      · omega
      injection hv1 with hv1 hv2 hv3
      subst hv1
      rcases he : edAt E x with ⟨ef, et, em, ec⟩
      rw [he] at hE? heo hxf hsn
      simp only at hxf hsn heo
      subst hxf
      have hc := edCells_get E x _ hE?
      have hMw := HM0.out.trans HM.out
      have r0 := hMw.cell (hcell _ _ hc.1) (by simp)
      have r1 := hMw.cell (hcell _ _ hc.2.1) (by simp)
      have r2 := hMw.cell (hcell _ _ hc.2.2.1) (by simp)
      have r3 := hMw.cell (hcell _ _ hc.2.2.2) (by simp)
      rw [← Nat.add_assoc] at r1 r2 r3
      have p1 : wr.cell? ⟨B, 1, none⟩ = some (.slice (some ⟨eb, eo, none⟩) E.length c1) := HM.out.cell (HB0.out.get rfl) (by simp)
      have zB : B < wr.heap.size := World.block_lt_of_cell? wr _ p1
      clear hcell hc hv2 hv3 hMw
      have b1 : (k : Int) < (L.length : Int) := by omega
      have b2 : (0 : Int) ≤ (x : Int) := by omega
      have b3 : (x : Int) < (E.length : Int) := by omega
      have b4 : decide (E.length ≤ x) = false := by simp; omega
      have b5 := heo.2.2.2
      have b6 := heo.2.2.1
      have HTK := Lib.hid htk
      have HSN := Lib.hid hsn
      have HWL := Lib.hid hwl
      obtain ⟨b7, b8⟩ := hcost
      clear htk hsn hwl hx hE? heo he hc0 hW0 hf0
      go_wp2_with fail
      go_quiet (fail)
      go_wp2_with fail
      have hq := (Mod.refl [] wr).drewN nq
      generalize wr.drewN nq = W1 at hq ⊢
      have p1 := hq.cell p1 (by simp)
      have t0 := hq.cell t0 (by simp)
      have r0 := hq.cell r0 (by simp)
      have r1 := hq.cell r1 (by simp)
      have r2 := hq.cell r2 (by simp)
      have r3 := hq.cell r3 (by simp)
      have zB : B < W1.heap.size := Nat.lt_of_lt_of_le zB hq.size
      have HO := Lib.hid (hq.own HO.out (by simp))
      have HM := Lib.hid (HM.out.trans hq)
      clear hq
      go_region_held3 (fun w' => w'.cell? ⟨B, 1, none⟩ = some (.slice (some ⟨eb, eo, none⟩) E.length c1) ∧ w'.cell? ⟨lb, lo + k, none⟩ = some (.int .i64 x) ∧ w'.cell? ⟨eb, eo + x * 4, none⟩ = some (.int .i64 ef) ∧ w'.cell? ⟨eb, eo + x * 4 + 1, none⟩ = some (.int .i64 et) ∧ w'.cell? ⟨eb, eo + x * 4 + 2, none⟩ = some (.int .i64 em) ∧ w'.cell? ⟨eb, eo + x * 4 + 3, none⟩ = some (.int .i64 ec)) (go_keep) (fail)
      all_goals go_wp2_with fail
      have hB := ((Blk.new W1 #[.int .i64 ef, .int .i64 et, .int .i64 em, .int .i64 ec] 44)).drew
      have hM : Mod [] W1 ((W1.alloc (.cells #[.int .i64 ef, .int .i64 et, .int .i64 em, .int .i64 ec] 44)).drew) := ((Mod.refl _ _).alloc _).drew
      generalize ((W1.alloc (.cells #[.int .i64 ef, .int .i64 et, .int .i64 em, .int .i64 ec] 44)).drew) = W2 at hB hM ⊢
      generalize W1.heap.size = B2 at hB ⊢
      have e1 : W2.cell? ⟨B2, 1, none⟩ = some (.int .i64 et) := hB.get rfl
      have e2 : W2.cell? ⟨B2, 2, none⟩ = some (.int .i64 em) := hB.get rfl
      have e3 : W2.cell? ⟨B2, 3, none⟩ = some (.int .i64 ec) := hB.get rfl
      have z2 := hB.lt
      have HO3 := Lib.hid (hM.own HO.out (by simp))
      have HM3 := Lib.hid (HM.out.trans hM)
      clear hB hM p1 t0 r0 r1 r2 r3 zB HO HM
      go_quiet (fail)
      have hq := (Mod.refl [] W2).drewN nq
      generalize W2.drewN nq = W3 at hq ⊢
      have e2 := hq.cell e2 (by simp)
      have z2 : B2 < W3.heap.size := Nat.lt_of_lt_of_le z2 hq.size
      have HO4 := Lib.hid (hq.own HO3.out (by simp))
      have HM4 := Lib.hid (HM3.out.trans hq)
      clear hq e1 e3 HO3 HM3
      go_wp2_with ((at_builtin; refine list_app rfl (.tmp 81) (.tmp 84) 22 rfl appInt u12 k (ints (castL W0)) rfl (own_alloc HO4.out _) W3.heap.size 3 1 [.int .i64 em] rfl rfl (Blk.new W3 #[.int .i64 em] 3) (by simp [Value.oneCell']) (by omega) (by omega) ?_; intro gg d1 w4 ho4 hg4 hat4 hlt4; have M4 : Mod u12.ownBlock.toList W3 w4 := ((Mod.refl _ W3).alloc _).grown hg4 (fun k hk => Or.inl (toList_own.2 hk)); have HO5 := Lib.hid ho4; have HM5 := Lib.hid M4; have HT := Lib.hid hat4; clear ho4 hg4 hat4 M4))
      have hWs := HM4.out.size
      refine ⟨⟨k + 1, by omega, by go_num, ⟨by rw [HSN.out], by rw [HSN.out]⟩, ?_, HM4.out.then HM5.out (fun b hb => Or.inr (HF.out b (toList_own.1 hb))), fun b hb => ?_⟩, by simp [intOf]; omega⟩
      · have e5 : ints (castL (W0 ++ [em])) = ints (castL W0) ++ [Value.int .i64 em] := by simp [ints, castL]
        show World.ownsRow _ _ _ _ _ _ _
        rw [HSN.out]
        simp only [e5]
        exact HO5.out
      · simp only [Value.ownBlock] at hb
        obtain rfl : gg = b := by simpa using hb
        rcases HT.out with h1 | h1
        · exact HF.out _ h1
        · simp at h1; omega
    · obtain rfl : k = L.length := by omega
      have hw := HW.out
      have e1 : wkF E v (L.take L.length) = (u, d, wd) := by rw [List.take_length]; exact hw
      have hwl := wkF_word E v L
      rw [hw] at hwl
      simp only [e1] at HO ⊢
      clear hw e1
      go_wp2_with fail
      go_ret3
      exact ⟨u12, rfl, HO.out, HM0.out.trans HM.out, fun b hb => Nat.le_trans HLO.out (HF.out b hb)⟩
end Go.Proofs.Ytekeondobdjppaa
