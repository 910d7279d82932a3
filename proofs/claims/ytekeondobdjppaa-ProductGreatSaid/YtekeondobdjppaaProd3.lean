/- Where a spot leads: the walk of on. -/
import Derived.Test.YtekeondobdjppaaProd1
import Derived.Test.YtekeondobdjppaaQWalkE
import Derived.Deep.RegionHeld3
namespace Go.Proofs.Ytekeondobdjppaa
open Go.RowKit

theorem appHop : AppT Try.prog 113 116 (.agg #[.int .i64 0, .int .i64 0, .int .i64 0]) 3 24 := AppT.mk' (by kernel_rfl) (by kernel_rfl) rfl (by decide)

abbrev Hop := Nat × Nat × Nat
def hopCells (l : List Hop) : List Value := l.flatMap fun h => [.int .i64 h.1, .int .i64 h.2.1, .int .i64 h.2.2]
theorem hopCells_append (l m : List Hop) : hopCells (l ++ m) = hopCells l ++ hopCells m := by simp [hopCells]
theorem hopCells_length (l : List Hop) : (hopCells l).length = l.length * 3 := by
  induction l with
  | nil => rfl
  | cons e E ih => simp only [hopCells, List.flatMap_cons, List.length_append] at ih ⊢; simp [ih]; omega
theorem hopCells_get : ∀ (l : List Hop) (i : Nat) (h : Hop), l[i]? = some h → (hopCells l)[i * 3]? = some (.int .i64 h.1) ∧ (hopCells l)[i * 3 + 1]? = some (.int .i64 h.2.1) ∧ (hopCells l)[i * 3 + 2]? = some (.int .i64 h.2.2) := by
  intro l
  induction l with
  | nil => intro i x h; simp at h
  | cons y l ih =>
    intro i x h
    have e : hopCells (y :: l) = .int .i64 y.1 :: .int .i64 y.2.1 :: .int .i64 y.2.2 :: hopCells l := rfl
    cases i with
    | zero => simp at h; subst h; simp [e]
    | succ i =>
      have := ih i x (by simpa using h)
      rw [e, show (i + 1) * 3 = i * 3 + 1 + 1 + 1 by omega]
      simpa using this

def edAt (E : List Ed) (k : Nat) : Ed := E.getD k ⟨0, 0, 0, 0⟩
theorem edAt_of {E : List Ed} {k : Nat} (h : k < E.length) : E[k]? = some (edAt E k) := by simp [edAt, List.getD_eq_getElem?_getD, h]
theorem mem_outs {E : List Ed} {k v : Nat} (h : k ∈ outsK E E.length v) : k < E.length ∧ (edAt E k).f = v := by
  simp only [outsK, List.mem_filter, List.mem_range] at h
  refine ⟨h.1, ?_⟩
  have := h.2
  rw [edAt_of h.1] at this
  simpa using this
theorem mem_ins {E : List Ed} {k v : Nat} (h : k ∈ insK E E.length v) : k < E.length ∧ (edAt E k).t = v := by
  simp only [insK, List.mem_filter, List.mem_range] at h
  refine ⟨h.1, ?_⟩
  have := h.2
  rw [edAt_of h.1] at this
  simpa using this
def hopOn (E : List Ed) (D : Dm) (s k : Nat) : Hop := ((edAt E k).t, D.nx s (edAt E k).m, k)
def hopsOn (E : List Ed) (D : Dm) (v s : Nat) : List Hop := (outsK E E.length v).map (hopOn E D s)
theorem take_snoc' {α : Type} {l : List α} {i : Nat} {x : α} (h : l[i]? = some x) : l.take (i + 1) = l.take i ++ [x] := by
  rw [List.take_add_one, h]; rfl
theorem outs_len (E : List Ed) (v : Nat) : (outsK E E.length v).length ≤ E.length := by
  simp only [outsK]; exact Nat.le_trans (List.length_filter_le _ _) (by simp)
theorem ins_len (E : List Ed) (v : Nat) : (insK E E.length v).length ≤ E.length := by
  simp only [insK]; exact Nat.le_trans (List.length_filter_le _ _) (by simp)

set_option maxRecDepth 100000 in
set_option maxHeartbeats 2000000 in
theorem on_calls {w : World} {F : List Nat} {g n : Nat} {E : List Ed} {D : Dm} (h : GraphR w F g n E D) (v s : Nat) (hv : v < n) (hs : s < D.S) :
    Calls Try.prog 45 #[.pointer (some ⟨g, 0, none⟩), .agg #[.int .i64 v, .int .i64 s]] w fun e w' => ∃ u, e = .returned u ∧
      w'.ownsRow 0 116 3 u (hopsOn E D v s).length (hopCells (hopsOn E D v s)) ∧ Mod [] w w' ∧ ∀ k, u.ownBlock = some k → w.heap.size ≤ k := by
  obtain ⟨hn, hn0, hm, hok, hD, ev, nv, av, a, bb, VB, k1, k2, hE, hN, k5, hA, k7, k8, k9⟩ := h
  obtain ⟨A1, c1, rfl, g1, g1'⟩ := hE.form
  obtain ⟨A2, c2, rfl, g2, g2'⟩ := hN.form
  have q1 : w.cell? ⟨g, 1, none⟩ = some (.slice A1 E.length c1) := k1.get rfl
  have q2 : w.cell? ⟨g, 2, none⟩ = some (.pointer (some ⟨a, 0, none⟩)) := k1.get rfl
  have q3 : w.cell? ⟨g, 3, none⟩ = some (.slice A2 D.S c2) := k1.get rfl
  have zg : g < w.heap.size := k1.lt
  have HE := Lib.hid hE
  have HN := Lib.hid hN
  have HA := Lib.hid hA
  have HOK := Lib.hid hok
  have HD := Lib.hid hD
  clear hE hN hA hok hD k1 k2 k5 k7 k8 k9
  go_enter Try.func45, Try.ntmps45
  go_wp2_with fail
  have B0 := Blk.new w #[.int .i64 v, .int .i64 s] 84
  have M0 : Mod [] w (w.alloc (.cells #[.int .i64 v, .int .i64 s] 84)) := (Mod.refl _ _).alloc _
  generalize (w.alloc (.cells #[.int .i64 v, .int .i64 s] 84)) = W0 at B0 M0 ⊢
  have x0 : W0.cell? ⟨w.heap.size, 0, none⟩ = some (.int .i64 v) := B0.get rfl
  have x1 : W0.cell? ⟨w.heap.size, 1, none⟩ = some (.int .i64 s) := B0.get rfl
  have p1 := M0.cell q1 (by simp)
  have p2 := M0.cell q2 (by simp)
  have p3 := M0.cell q3 (by simp)
  have zx : w.heap.size < W0.heap.size := B0.lt
  have HM0 := Lib.hid M0
  clear B0 M0 q1 q2 q3
  go_region_held3 (fun w' => w'.cell? ⟨g, 2, none⟩ = some (.pointer (some ⟨a, 0, none⟩)) ∧ w'.cell? ⟨w.heap.size, 0, none⟩ = some (.int .i64 v)) (go_keep)
    ((go_at_call 84; refine (out_calls (HA.out.mod HM0.out.drew (fun _ _ => by simp)) v _ rfl hv).mono ?_; rintro e w1 ⟨u, rfl, ho, hm1, hf⟩; obtain ⟨A3, c3, rfl⟩ := own_any ho; have M1 := ((Mod.refl [] W0).drew).trans hm1; have r1 := M1.cell p1 (by simp); have r2 := M1.cell p2 (by simp); have r3 := M1.cell p3 (by simp); have y0 := M1.cell x0 (by simp); have y1 := M1.cell x1 (by simp); have HO := Lib.hid ho; have HM1 := Lib.hid M1; have HF := Lib.hid hf; clear ho hm1 hf M1))
  have hcl : (castL (outsK E E.length v)).length = (outsK E E.length v).length := by simp [castL]
  simp only [hcl] at HO ⊢
  clear hcl
  obtain ⟨ks, hks⟩ : ∃ ks, outsK E E.length v = ks := ⟨_, rfl⟩
  have hkl : ks.length ≤ E.length := hks ▸ outs_len E v
  have HKM : Hid (∀ k ∈ ks, k < E.length ∧ (edAt E k).f = v) := fun k hk => mem_outs (hks ▸ hk)
  have hhop : hopsOn E D v s = ks.map (hopOn E D s) := by simp only [hopsOn, hks]
  rw [hks] at HO ⊢
  have HHOP := Lib.hid hhop
  clear hhop hks x0 x1 p1 p2 p3
  go_wp2_with fail
  obtain ⟨wo, rfl⟩ : ∃ wo : World, wo = w1 := ⟨_, rfl⟩
  have zw : w.heap.size < wo.heap.size := World.block_lt_of_cell? wo _ y0
  go_loopw [17, 5] (fun u r wr => ∃ (i : Nat), i ≤ ks.length ∧ u = .int .i64 i ∧ Hid (wr.ownsRow 0 116 3 r i (hopCells ((ks.take i).map (hopOn E D s)))) ∧ Hid (Mod [] wo wr) ∧ Hid (∀ k, r.ownBlock = some k → wo.heap.size ≤ k)) (fun u _ _ => ks.length - (intOf u).toNat)
  case atStart => exact ⟨0, Nat.zero_le _, rfl, World.ownsRow_nil _ _ _ _, Mod.refl _ _, fun k hk => by simp [Value.ownBlock] at hk⟩
  case round =>
    obtain ⟨i, hi, rfl, HR, HM, HFR⟩ := hrel
    by_cases hlt : i < ks.length
    · obtain ⟨k, hk⟩ : ∃ k, ks[i]? = some k := ⟨_, List.getElem?_eq_getElem hlt⟩
      obtain ⟨hkE, hkf⟩ := HKM.out k (List.mem_of_getElem? hk)
      rcases he : edAt E k with ⟨ef, et, em, ec⟩
      have heo := HOK.out _ (List.mem_of_getElem? (edAt_of hkE))
      have hE? := edAt_of hkE
      rw [he] at heo hE?
      obtain ⟨_, _, hem, _⟩ := heo
      simp only at hem
      have hMw : Mod [] w wr := ((HM0.out.trans HM1.out).trans HM.out)
      rcases Sl.of_own HO.out with ⟨_, h0, _⟩ | ⟨kb, ko, c', hv, _, _, _, hbl, hcell⟩
      · omega
      injection hv with hv1 hv2 hv3
      subst hv1
      have tk : wr.cell? ⟨kb, ko + i, none⟩ = some (.int .i64 k) := HM.out.cell (hcell i _ (by simp [ints, castL, hk])) (by simp)
      clear hcell hv2 hv3
      rcases HE.out with ⟨_, h0, _⟩ | ⟨eb, eo, c', hv, _, _, _, hbl2, hcell⟩
      · omega
      injection hv with hv1 hv2 hv3
      subst hv1
      have hc := edCells_get E k _ hE?
      have t0 := hMw.cell (hcell _ _ hc.1) (by simp)
      have t1 := hMw.cell (hcell _ _ hc.2.1) (by simp)
      have t2 := hMw.cell (hcell _ _ hc.2.2.1) (by simp)
      have t3 := hMw.cell (hcell _ _ hc.2.2.2) (by simp)
      rw [← Nat.add_assoc] at t1 t2 t3
      clear hcell hc hv2 hv3
      have S1 := HM.out.cell r1 (by simp)
      have S3 := HM.out.cell r3 (by simp)
      have SY := HM.out.cell y1 (by simp)
      have zg2 : g < wr.heap.size := World.block_lt_of_cell? wr _ S1
      have b1 : (0 : Int) ≤ (i : Int) := by omega
      have b2 : (i : Int) < (ks.length : Int) := by omega
      have b3 : (0 : Int) ≤ (k : Int) := by omega
      have b4 : (k : Int) < (E.length : Int) := by omega
      go_wp2_with fail
      have hB := Blk.new wr #[.int .i64 ef, .int .i64 et, .int .i64 em, .int .i64 ec] 44
      have hM : Mod [] wr (wr.alloc (.cells #[.int .i64 ef, .int .i64 et, .int .i64 em, .int .i64 ec] 44)) := (Mod.refl _ _).alloc _
      generalize (wr.alloc (.cells #[.int .i64 ef, .int .i64 et, .int .i64 em, .int .i64 ec] 44)) = W at hB hM ⊢
      generalize wr.heap.size = B at hB ⊢
      have HR2 := Lib.hid (hM.own HR.out (by simp))
      have HM2 := Lib.hid (HM.out.trans hM)
      have e1 : W.cell? ⟨B, 1, none⟩ = some (.int .i64 et) := hB.get rfl
      have e2 : W.cell? ⟨B, 2, none⟩ = some (.int .i64 em) := hB.get rfl
      have p3 := hM.cell S3 (by simp)
      have py := hM.cell SY (by simp)
      rcases HN.out with ⟨_, h0, _⟩ | ⟨nb, no, c', hv, _, _, _, hbl3, hcell⟩
      · omega
      injection hv with hv1 hv2 hv3
      subst hv1
      have pn := hM.cell (hMw.cell (hcell _ _ (nxCells_get D hs hem)) (by simp)) (by simp)
      rw [← Nat.add_assoc] at pn
      clear hcell hv2 hv3 hMw tk t0 t1 t2 t3 S1 S3 SY r1 r2 r3 y0 y1
      obtain ⟨tt, hto⟩ : ∃ tt, D.nx s em = tt := ⟨_, rfl⟩
      rw [hto] at pn
      have HHE : Hid (hopOn E D s k = (et, tt, k)) := by simp [hopOn, he, hto, Hid]
      have HK := Lib.hid hk
      have b5 : (0 : Int) ≤ (em : Int) := by omega
      have b6 : (em : Int) < 5 := by omega
      have b7 : (0 : Int) ≤ (s : Int) := by omega
      have b8 : (s : Int) < (D.S : Int) := by omega
      have zB : B < W.heap.size := hB.lt
      have hNB : ∀ x, x ∈ u5.ownBlock.toList → x ≠ B ∧ x ≠ g ∧ x ≠ w.heap.size ∧ x ≠ nb := fun x hx => by
        have hx := toList_own.1 hx
        have h1 := HFR.out x hx
        exact ⟨own_ne_block HR2.out hB (by decide) x hx, by omega, by omega, by omega⟩
      have HNB := Lib.hid hNB
      clear hNB hM hB HM HR hto he hk hE? HHOP HKM HM0 HM1 HF HOK HD HA HE HN HO
      go_region_held3 (fun w' => w'.cell? ⟨B, 1, none⟩ = some (.int .i64 et) ∧ w'.cell? ⟨B, 2, none⟩ = some (.int .i64 em) ∧ w'.cell? ⟨g, 3, none⟩ = some (.slice (some ⟨nb, no, none⟩) D.S c2) ∧ w'.cell? ⟨w.heap.size, 1, none⟩ = some (.int .i64 s) ∧ w'.cell? ⟨nb, no + s * 5 + em, none⟩ = some (.int .i64 tt)) (go_keep)
        ((refine step_app (by rfl) (.tmp 29) (.tmp 47) 113 (by rfl) appHop _ i _ (by rfl) (own_alloc HR2.out _) W.heap.size 116 1 [.int .i64 et, .int .i64 tt, .int .i64 k] (by rfl) rfl (Blk.new W #[.int .i64 et, .int .i64 tt, .int .i64 k] 116) (by simp [Value.oneCell']) (by omega) (by omega) ?_; intro gg d1 w2 ho hg hat hlt1; have M1 : Mod u5.ownBlock.toList W w2 := ((Mod.refl _ W).alloc _).drew.grown hg (fun k hk => Or.inl (toList_own.2 hk)); have m1 := M1.cell e1 (fun h => (HNB.out _ h).1 rfl); have m2 := M1.cell e2 (fun h => (HNB.out _ h).1 rfl); have m3 := M1.cell p3 (fun h => (HNB.out _ h).2.1 rfl); have m4 := M1.cell py (fun h => (HNB.out _ h).2.2.1 rfl); have m5 := M1.cell pn (fun h => (HNB.out _ h).2.2.2 rfl); have HO2 := Lib.hid ho; have HM3 := Lib.hid M1; have HT := Lib.hid hat; clear ho hg hat M1))
      all_goals go_wp2_with fail
      all_goals
        have hWs := HM2.out.size
        refine ⟨⟨i + 1, by omega, by go_num, ?_, HM2.out.then HM3.out (fun x hx => Or.inr (HFR.out x (toList_own.1 hx))), fun x hx => ?_⟩, by simp [intOf]; omega⟩
        · have hcells : hopCells ((ks.take (i + 1)).map (hopOn E D s)) = hopCells ((ks.take i).map (hopOn E D s)) ++ [.int .i64 et, .int .i64 tt, .int .i64 k] := by
            rw [take_snoc' HK.out, List.map_append, hopCells_append]
            simp [hopCells, HHE.out]
          show World.ownsRow _ _ _ _ _ _ _
          rw [hcells]
          exact HO2.out
        · simp only [Value.ownBlock] at hx
          obtain rfl : gg = x := by simpa using hx
          rcases HT.out with h1 | h1
          · exact HFR.out _ h1
          · simp at h1; omega
    · obtain rfl : i = ks.length := by omega
      go_wp2_with fail
      go_ret
      rw [HHOP.out]
      refine ⟨_, rfl, ?_, (HM0.out.trans HM1.out).trans HM.out, fun x hx => ?_⟩
      · have := HR.out
        rw [List.take_length] at this
        simpa using this
      · have := HFR.out x hx
        omega
end Go.Proofs.Ytekeondobdjppaa
