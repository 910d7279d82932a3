/- What leads to a spot: the walk of back. -/
import Derived.Test.YtekeondobdjppaaProd3
namespace Go.Proofs.Ytekeondobdjppaa
open Go.RowKit

def hopBack (E : List Ed) (k q : Nat) : Hop := ((edAt E k).f, q, k)
def hopsBack (E : List Ed) (D : Dm) (v s : Nat) : List Hop := (insK E E.length v).flatMap fun k => (befs D D.S s (edAt E k).m).map (hopBack E k)
theorem befs_len (D : Dm) (s m : Nat) : (befs D D.S s m).length ≤ D.S := by
  simp only [befs]; exact Nat.le_trans (List.length_filter_le _ _) (by simp)
theorem take_map {α β : Type} (f : α → β) (l : List α) (i : Nat) : (l.map f).take i = (l.take i).map f := (List.map_take ..).symm
theorem fm_len (L : Nat → List Hop) (S : Nat) (hL : ∀ k, (L k).length ≤ S) : ∀ l : List Nat, (l.flatMap L).length ≤ l.length * S := by
  intro l
  induction l with
  | nil => simp
  | cons x l ih => simp only [List.flatMap_cons, List.length_append, List.length_cons, Nat.succ_mul]; have := hL x; omega

set_option maxRecDepth 100000 in
set_option maxHeartbeats 2000000 in
theorem back_calls {w : World} {F : List Nat} {g n : Nat} {E : List Ed} {D : Dm} (h : GraphR w F g n E D) (hE4 : E.length ≤ 1000) (v s : Nat) (hv : v < n) (hs : s < D.S) :
    Calls Try.prog 58 #[.pointer (some ⟨g, 0, none⟩), .agg #[.int .i64 v, .int .i64 s]] w fun e w' => ∃ u, e = .returned u ∧
      w'.ownsRow 0 116 3 u (hopsBack E D v s).length (hopCells (hopsBack E D v s)) ∧ Mod [] w w' ∧ ∀ k, u.ownBlock = some k → w.heap.size ≤ k := by
  obtain ⟨hn, hn0, hm, hok, hD, ev, nv, av, a, bb, VB, k1, k2, hE, hN, k5, hA, k7, k8, k9⟩ := h
  obtain ⟨A1, c1, rfl, g1, g1'⟩ := hE.form
  have q1 : w.cell? ⟨g, 1, none⟩ = some (.slice A1 E.length c1) := k1.get rfl
  have q2 : w.cell? ⟨g, 2, none⟩ = some (.pointer (some ⟨a, 0, none⟩)) := k1.get rfl
  have q3 : w.cell? ⟨g, 5, none⟩ = some (.slice (some ⟨bb, 0, none⟩) D.S D.S) := k1.get rfl
  have zg : g < w.heap.size := k1.lt
  have HB7 := Lib.hid k7
  have HE := Lib.hid hE
  have HK9 := Lib.hid k9
  have HA := Lib.hid hA
  have HOK := Lib.hid hok
  have HD := Lib.hid hD
  clear hE hN hA hok k1 k2 k5 k7 k8 k9
  have hS2 : D.S ≤ 2000 := hD.2.1
  clear hD
  go_enter Try.func58, Try.ntmps58
  go_wp2_with fail
  have B0 := Blk.new w #[.int .i64 v, .int .i64 s] 84
  have M0 : Mod [] w (w.alloc (.cells #[.int .i64 v, .int .i64 s] 84)) := (Mod.refl _ _).alloc _
  generalize (w.alloc (.cells #[.int .i64 v, .int .i64 s] 84)) = W0 at B0 M0 ⊢
  have x0 : W0.cell? ⟨w.heap.size, 0, none⟩ = some (.int .i64 v) := B0.get rfl
  have x1 : W0.cell? ⟨w.heap.size, 1, none⟩ = some (.int .i64 s) := B0.get rfl
  have p1 := M0.cell q1 (by simp)
  have p2 := M0.cell q2 (by simp)
  have p3 := M0.cell q3 (by simp)
  have zx : w.heap.size < W0.heap.size := B0.lt
  have HM0 := Lib.hid M0
  clear B0 M0 q1 q2 q3
  go_region_held3 (fun w' => w'.cell? ⟨g, 2, none⟩ = some (.pointer (some ⟨a, 0, none⟩)) ∧ w'.cell? ⟨w.heap.size, 0, none⟩ = some (.int .i64 v)) (go_keep)
    ((go_at_call 96; refine (in_calls (HA.out.mod HM0.out.drew (fun _ _ => by simp)) v _ rfl hv).mono ?_; rintro e w1 ⟨u, rfl, ho, hm1, hf⟩; obtain ⟨A3, c3, rfl⟩ := own_any ho; have M1 := ((Mod.refl [] W0).drew).trans hm1; have r1 := M1.cell p1 (by simp); have r2 := M1.cell p2 (by simp); have r3 := M1.cell p3 (by simp); have y0 := M1.cell x0 (by simp); have y1 := M1.cell x1 (by simp); have HO := Lib.hid ho; have HM1 := Lib.hid M1; have HF := Lib.hid hf; clear ho hm1 hf M1))
  have hcl : (castL (insK E E.length v)).length = (insK E E.length v).length := by simp [castL]
  simp only [hcl] at HO ⊢
  clear hcl
  obtain ⟨ks, hks⟩ : ∃ ks, insK E E.length v = ks := ⟨_, rfl⟩
  have hkl : ks.length ≤ E.length := hks ▸ ins_len E v
  have HKM : Hid (∀ k ∈ ks, k < E.length ∧ (edAt E k).t = v) := fun k hk => mem_ins (hks ▸ hk)
  have hhop : hopsBack E D v s = ks.flatMap (fun k => (befs D D.S s (edAt E k).m).map (hopBack E k)) := by simp only [hopsBack, hks]
  rw [hks] at HO ⊢
  have HHOP := Lib.hid hhop
  clear hhop hks x0 x1 p1 p2 p3
  go_wp2_with fail
  obtain ⟨wo, rfl⟩ : ∃ wo : World, wo = w1 := ⟨_, rfl⟩
  have zw : w.heap.size < wo.heap.size := World.block_lt_of_cell? wo _ y0
  go_loopw [19, 5] (fun u r wr => ∃ (i : Nat) (hl : List Hop), hl = (ks.take i).flatMap (fun k => (befs D D.S s (edAt E k).m).map (hopBack E k)) ∧ i ≤ ks.length ∧ u = .int .i64 i ∧ Hid (wr.ownsRow 0 116 3 r hl.length (hopCells hl)) ∧ Hid (Mod [] wo wr) ∧ Hid (∀ k, r.ownBlock = some k → wo.heap.size ≤ k)) (fun u _ _ => ks.length - (intOf u).toNat)
  case atStart => exact ⟨0, [], rfl, Nat.zero_le _, rfl, World.ownsRow_nil _ _ _ _, Mod.refl _ _, fun k hk => by simp [Value.ownBlock] at hk⟩
  case round =>
    obtain ⟨i, hl, hhl, hi, rfl, HR, HM, HFR⟩ := hrel
    by_cases hlt : i < ks.length
    · obtain ⟨k, hk⟩ : ∃ k, ks[i]? = some k := ⟨_, List.getElem?_eq_getElem hlt⟩
      obtain ⟨hkE, hkf⟩ := HKM.out k (List.mem_of_getElem? hk)
      rcases he : edAt E k with ⟨ef, et, em, ec⟩
      have heo := HOK.out _ (List.mem_of_getElem? (edAt_of hkE))
      have hE? := edAt_of hkE
      rw [he] at heo hE?
      obtain ⟨_, _, hem, _⟩ := heo
      simp only at hem
      have hMw : Mod [] w wr := ((HM0.out.trans HM1.out).trans HM.out)
      rcases Sl.of_own HO.out with ⟨_, h0, _⟩ | ⟨kb, ko, c', hv, _, _, _, hbl, hcell⟩
      · omega
      injection hv with hv1 hv2 hv3
      subst hv1
      have tk : wr.cell? ⟨kb, ko + i, none⟩ = some (.int .i64 k) := HM.out.cell (hcell i _ (by simp [ints, castL, hk])) (by simp)
      clear hcell hv2 hv3
      rcases HE.out with ⟨_, h0, _⟩ | ⟨eb, eo, c', hv, _, _, _, hbl2, hcell⟩
      · omega
      injection hv with hv1 hv2 hv3
      subst hv1
      have hc := edCells_get E k _ hE?
      have t0 := hMw.cell (hcell _ _ hc.1) (by simp)
      have t1 := hMw.cell (hcell _ _ hc.2.1) (by simp)
      have t2 := hMw.cell (hcell _ _ hc.2.2.1) (by simp)
      have t3 := hMw.cell (hcell _ _ hc.2.2.2) (by simp)
      rw [← Nat.add_assoc] at t1 t2 t3
      clear hcell hc hv2 hv3
      have S1 := HM.out.cell r1 (by simp)
      have S3 := HM.out.cell r3 (by simp)
      have SY := HM.out.cell y1 (by simp)
      have zg2 : g < wr.heap.size := World.block_lt_of_cell? wr _ S1
      have b1 : (0 : Int) ≤ (i : Int) := by omega
      have b2 : (i : Int) < (ks.length : Int) := by omega
      have b3 : (0 : Int) ≤ (k : Int) := by omega
      have b4 : (k : Int) < (E.length : Int) := by omega
      go_wp2_with fail
      have hB := Blk.new wr #[.int .i64 ef, .int .i64 et, .int .i64 em, .int .i64 ec] 44
      have hM : Mod [] wr (wr.alloc (.cells #[.int .i64 ef, .int .i64 et, .int .i64 em, .int .i64 ec] 44)) := (Mod.refl _ _).alloc _
      generalize (wr.alloc (.cells #[.int .i64 ef, .int .i64 et, .int .i64 em, .int .i64 ec] 44)) = W at hB hM ⊢
      generalize wr.heap.size = B at hB ⊢
      have HR2 := Lib.hid (hM.own HR.out (by simp))
      have HM2 := Lib.hid (HM.out.trans hM)
      have e1 : W.cell? ⟨B, 0, none⟩ = some (.int .i64 ef) := hB.get rfl
      have e2 : W.cell? ⟨B, 2, none⟩ = some (.int .i64 em) := hB.get rfl
      have p3 := hM.cell S3 (by simp)
      have py := hM.cell SY (by simp)
      have hidx : s * 5 + em < D.S * 5 := by omega
      have hvb := HK9.out s em hs hem
      obtain ⟨A5, c5, e5, g5, g5'⟩ := hvb.form
      have pn := hM.cell (hMw.cell (HB7.out.get (rowsB_get (V := VB) hidx)) (by simp)) (by simp)
      rw [e5] at pn hvb
      have zbb : bb < W.heap.size := World.block_lt_of_cell? W _ pn
      have hvb2 := hvb.mod (HM0.out.trans HM1.out) (G := []) (fun _ _ => by simp)
      have HVB := Lib.hid hvb2
      clear hMw tk t0 t1 t2 t3 S1 S3 SY r1 r2 r3 y0 y1 hvb hvb2
      have HHE := Lib.hid he
      have HK := Lib.hid hk
      have b5 : (0 : Int) ≤ (em : Int) := by omega
      have b6 : (em : Int) < 5 := by omega
      have b7 : (0 : Int) ≤ (s : Int) := by omega
      have b8 : (s : Int) < (D.S : Int) := by omega
      have zB : B < W.heap.size := hB.lt
      have hhll : hl.length ≤ 2000000 := by
        rw [hhl]
        refine Nat.le_trans (fm_len _ D.S (fun k => by simpa using befs_len D s _) _) ?_
        have h1 : (ks.take i).length ≤ 1000 := by rw [List.length_take]; omega
        exact Nat.le_trans (Nat.mul_le_mul h1 hS2) (by omega)
      have HHL := Lib.hid hhl
      have HBB := Lib.hid hB
      clear hM hB HM HR he hk hE? HHOP HKM HM0 HM1 HF HOK HD HA HE HO HB7 HK9 hhl e5
      obtain ⟨bl, hbl'⟩ : ∃ bl, befs D D.S s em = bl := ⟨_, rfl⟩
      have hbll : bl.length ≤ 2000 := by rw [← hbl']; exact Nat.le_trans (befs_len D s em) hS2
      rw [hbl'] at HVB pn
      go_region
      all_goals go_wp2_with fail
      have HBL := Lib.hid hbl'
      clear hbl' e1 e2 p3 py pn
      have HM3 := Lib.hid HM2.out.drew
      have HR3 : Hid (W.drew.ownsRow 0 116 3 u5 hl.length (hopCells hl)) := HR2.out
      have HB3 := Lib.hid HBB.out.drew
      generalize W.drew = Wd at HM3 HR3 HB3 ⊢
      clear HR2 HM2 HBB zbb zB
      go_loopw [43, 5] (fun u r wx => ∃ (j : Nat), j ≤ bl.length ∧ u = .int .i64 j ∧ Hid (wx.ownsRow 0 116 3 r (hl.length + j) (hopCells (hl ++ (bl.take j).map (hopBack E k)))) ∧ Hid (Mod [] wo wx) ∧ Hid (∀ k, r.ownBlock = some k → wo.heap.size ≤ k) ∧ Hid (Blk wx B 44 [.int .i64 ef, .int .i64 et, .int .i64 em, .int .i64 ec])) (fun u _ _ => bl.length - (intOf u).toNat)
      case atStart => exact ⟨0, Nat.zero_le _, rfl, by simpa using HR3, HM3, HFR, HB3⟩
      case round =>
        obtain ⟨j, hj, rfl, HRx, HMx, HFx, HBx⟩ := hrel
        clear HR3 HM3 HB3 HFR
        by_cases hltj : j < bl.length
        · obtain ⟨q, hq⟩ : ∃ q, bl[j]? = some q := ⟨_, List.getElem?_eq_getElem hltj⟩
          rcases HVB.out with ⟨_, h0, _⟩ | ⟨vb, vo, c', hv, _, _, _, hbl3, hcell⟩
          · omega
          injection hv with hv1 hv2 hv3
          subst hv1
          have tq : wr.cell? ⟨vb, vo + j, none⟩ = some (.int .i64 q) := HMx.out.cell (hcell j _ (by simp [ints, castL, hq])) (by simp)
          have eB := HBx.out.get (i := 0) rfl
          have HQ := Lib.hid hq
          have b9 : (0 : Int) ≤ (j : Int) := by omega
          have b10 : (j : Int) < (bl.length : Int) := by omega
          clear hcell hv2 hv3 hq
          have hNB : ∀ x, x ∈ u5.ownBlock.toList → x ≠ B := fun x hx => own_ne_block HRx.out HBx.out (by decide) x (toList_own.1 hx)
          have HNB := Lib.hid hNB
          clear hNB
          go_wp2_with ((at_builtin; refine list_app rfl (.tmp 47) (.tmp 54) 113 rfl appHop u5 (hl.length + j) _ rfl (own_alloc HRx.out _) wr.heap.size 116 1 [.int .i64 ef, .int .i64 q, .int .i64 k] rfl rfl (Blk.new wr #[.int .i64 ef, .int .i64 q, .int .i64 k] 116) (by simp [Value.oneCell']) (by omega) (by omega) ?_; intro gg d1 w2 ho hg hat hlt1))
          have M1 : Mod u5.ownBlock.toList wr w2 := ((Mod.refl _ wr).alloc _).grown hg (fun k hk => Or.inl (toList_own.2 hk))
          have HO2 := Lib.hid ho
          have HM3 := Lib.hid M1
          have HT := Lib.hid hat
          clear ho hg hat M1
          all_goals go_wp2_with fail
          all_goals
            have hWs := HMx.out.size
            refine ⟨⟨j + 1, by omega, by go_num, ?_, HMx.out.then HM3.out (fun x hx => Or.inr (HFx.out x (toList_own.1 hx))), fun x hx => ?_, HBx.out.mod HM3.out (fun h => HNB.out _ h rfl)⟩, by simp [intOf]; omega⟩
            · have hcells : hopCells (hl ++ (bl.take (j + 1)).map (hopBack E k)) = hopCells (hl ++ (bl.take j).map (hopBack E k)) ++ [.int .i64 ef, .int .i64 q, .int .i64 k] := by
                rw [take_snoc' HQ.out, List.map_append, ← List.append_assoc, hopCells_append (hl ++ _)]
                simp [hopCells, hopBack, HHE.out]
              show World.ownsRow _ _ _ _ _ _ _
              rw [hcells]
              exact HO2.out
            · simp only [Value.ownBlock] at hx
              obtain rfl : gg = x := by simpa using hx
              rcases HT.out with h1 | h1
              · exact HFx.out _ h1
              · simp at h1; omega
        · obtain rfl : j = bl.length := by omega
          go_wp2_with fail
          go_roundw
          case rel =>
            refine ⟨i + 1, hl ++ bl.map (hopBack E k), ?_, by omega, by go_num, ?_, HMx, HFx⟩
            · rw [take_snoc' HK.out, List.flatMap_append, ← HHL.out]
              simp [HHE.out, HBL.out]
            · have := HRx
              rw [List.take_length] at this
              simpa using this
          case measure => simp [intOf]; omega
    · obtain rfl : i = ks.length := by omega
      go_wp2_with fail
      go_ret
      rw [HHOP.out]
      rw [List.take_length] at hhl
      rw [← hhl]
      exact ⟨_, rfl, HR.out, (HM0.out.trans HM1.out).trans HM.out, fun x hx => by have := HFR.out x hx; omega⟩
end Go.Proofs.Ytekeondobdjppaa
