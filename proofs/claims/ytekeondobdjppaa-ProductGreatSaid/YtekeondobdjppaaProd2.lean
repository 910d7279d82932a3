/- A network with a machine: the walk of join. -/
import Derived.Test.YtekeondobdjppaaAdj4
import Derived.Test.YtekeondobdjppaaBefW
import Derived.Deep.RegionHeld3
namespace Go.Proofs.Ytekeondobdjppaa
open Go.RowKit

theorem appFive : AppT Try.prog 142 145 (.agg #[.slice none 0 0, .slice none 0 0, .slice none 0 0, .slice none 0 0, .slice none 0 0]) 5 120 := AppT.mk' (by kernel_rfl) (by kernel_rfl) rfl (by decide)

theorem zrow_rows (n : Nat) : (zrow #[.slice none 0 0, .slice none 0 0, .slice none 0 0, .slice none 0 0, .slice none 0 0] n).toList = rowsB (n * 5) (fun _ => .slice none 0 0) := by
  have e : ∀ m, rowsB m (fun _ => Value.slice none 0 0) = List.replicate m (.slice none 0 0) := fun m => by
    induction m with
    | zero => rfl
    | succ m ih => simp [rowsB, List.map_const']
  rw [e]
  simp only [zrow]
  induction n with
  | zero => rfl
  | succ n ih =>
    rw [List.replicate_succ, List.flatten_cons, show (n + 1) * 5 = n * 5 + 1 + 1 + 1 + 1 + 1 by omega]
    simp only [List.replicate_succ, ← ih]
    rfl

theorem AdjR.more {w : World} {F G : List Nat} {a n : Nat} {O I : Nat → List Int} (h : AdjR w F a n O I) (hd : ∀ b ∈ F, b ∈ G) : AdjR w G a n O I := by
  obtain ⟨hn, ob, ib, ev, VO, VI, h1, h2, h3, h4, h5, h6, h7, h8⟩ := h
  exact ⟨hn, ob, ib, ev, VO, VI, h1, h2, h3, hd _ h4, hd _ h5, hd _ h6, fun v hv => ⟨(h7 v hv).1, (h7 v hv).2.1.more hd, (h7 v hv).2.2⟩, fun v hv => ⟨(h8 v hv).1, (h8 v hv).2.1.more hd, (h8 v hv).2.2⟩⟩
theorem befs_succ (D : Dm) (k s m : Nat) : befs D (k + 1) s m = if D.nx k m = s then befs D k s m ++ [k] else befs D k s m := by
  simp only [befs, List.range_succ, List.filter_append]
  by_cases e : D.nx k m = s <;> simp [e]
/-- What the rows hold behind s states, and j modes of the next one. -/
def JDone (D : Dm) (s j : Nat) (L : Nat → List Int) : Prop := ∀ t m, t < D.S → m < 5 → L (t * 5 + m) = castL (befs D (if m < j then s + 1 else s) t m)
theorem JDone.zero (D : Dm) : JDone D 0 0 (fun _ => []) := fun t m _ _ => by simp [befs, castL]
theorem JDone.next {D : Dm} {s : Nat} {L : Nat → List Int} (h : JDone D s 5 L) : JDone D (s + 1) 0 L := fun t m ht hm => by
  have := h t m ht hm
  rw [if_pos hm] at this
  simpa using this
theorem JDone.len {D : Dm} {s j : Nat} {L : Nat → List Int} (h : JDone D s j L) {t m : Nat} (ht : t < D.S) (hm : m < 5) : (L (t * 5 + m)).length ≤ s + 1 := by
  rw [h t m ht hm]
  simp only [castL, List.length_map, befs]
  refine Nat.le_trans (List.length_filter_le _ _) ?_
  simp only [List.length_range]
  split <;> omega
theorem JDone.step {D : Dm} {s j : Nat} {L : Nat → List Int} (h : JDone D s j L) (hj : j < 5) : JDone D s (j + 1) (updN L (D.nx s j * 5 + j) (L (D.nx s j * 5 + j) ++ [(s : Int)])) := fun t m ht hm => by
  have h1 := h t m ht hm
  by_cases e : m = j
  · subst e
    rw [if_neg (by omega)] at h1
    rw [if_pos (by omega), befs_succ]
    by_cases e2 : D.nx s m = t
    · rw [if_pos e2, e2]
      simp only [updN, if_true, h1, castL]
      simp
    · rw [if_neg e2]
      simp only [updN]
      rw [if_neg (by omega)]
      exact h1
  · simp only [updN]
    rw [if_neg (by omega), h1]
    congr 2
    by_cases e3 : m < j
    · rw [if_pos e3, if_pos (by omega)]
    · rw [if_neg e3, if_neg (by omega)]

/-- What join has laid ahead of its loop. -/
def JoinL (w wx : World) (n : Nat) (ev nv av : Value) (E : List Ed) (D : Dm) (s : Value) : Prop := ∃ g a bb G, s = .pointer (some ⟨g, 0, none⟩) ∧ Blk wx g 144 [.int .i64 n, ev, .pointer (some ⟨a, 0, none⟩), nv, av, .slice (some ⟨bb, 0, none⟩) D.S D.S] ∧
  Blk wx bb 145 (rowsB (D.S * 5) (fun _ => .slice none 0 0)) ∧ AdjR wx G a n (fun v => castL (outsK E E.length v)) (fun v => castL (insK E E.length v)) ∧ (∀ b ∈ G, w.heap.size ≤ b ∧ b < wx.heap.size ∧ b ≠ bb) ∧ w.heap.size ≤ g ∧ w.heap.size ≤ bb ∧ Mod [] w wx ∧
  wx.cell? ⟨w.heap.size + 1, 0, none⟩ = some nv

set_option maxRecDepth 100000 in
set_option maxHeartbeats 2000000 in
theorem join_calls (n : Nat) (ev nv av : Value) (E : List Ed) (D : Dm) (F : List Nat) (w : World) (hn : n ≤ 60) (hn0 : 0 < n) (hm : E.length < 1000000) (hok : EdOk n E) (hD : DmOk D) (hE : Sl w F ev E.length (edCells E)) (hN : Sl w F nv D.S (nxCells D D.S)) (hA : Sl w F av D.S (acCells D D.S)) :
    Calls Try.prog 43 #[.agg #[.int .i64 n, ev], .agg #[nv, av]] w fun e w' => ∃ g, e = .returned (.pointer (some ⟨g, 0, none⟩)) ∧ Mod [] w w' ∧ ∃ F', GraphR w' F' g n E D ∧ ∀ b ∈ F', b ∈ F ∨ w.heap.size ≤ b := by
  obtain ⟨A1, c1, rfl, g1, g1'⟩ := hE.form
  obtain ⟨A2, c2, rfl, g2, g2'⟩ := hN.form
  obtain ⟨A3, c3, rfl, g3, g3'⟩ := hA.form
  have hS : D.S ≤ 2000 := hD.2.1
  have hmk := fun W => run_mk appFive D.S (by omega) (by omega) W
  have hS0 : Hid (∀ W, Mod [] w W → Sl W F (.slice A1 E.length c1) E.length (edCells E)) := fun W hW => hE.mod hW (fun _ _ => by simp)
  have HN := Lib.hid hN
  have HA := Lib.hid hA
  have HOK := Lib.hid hok
  have HD := Lib.hid hD
  clear hE hN hA hok hD
  go_enter Try.func43, Try.ntmps43
  go_upto_region 1 with fail
  have B0 := (Blk.new w #[.int .i64 n, .slice A1 E.length c1] 28).alloc (.cells #[.slice A2 D.S c2, .slice A3 D.S c3] 33)
  have B1 := Blk.new' (w := w.alloc (.cells #[.int .i64 n, .slice A1 E.length c1] 28)) #[.slice A2 D.S c2, .slice A3 D.S c3] 33 (k := w.heap.size + 1) (by simp)
  have M0 : Mod [] w ((w.alloc (.cells #[.int .i64 n, .slice A1 E.length c1] 28)).alloc (.cells #[.slice A2 D.S c2, .slice A3 D.S c3] 33)) := ((Mod.refl _ _).alloc _).alloc _
  generalize ((w.alloc (.cells #[.int .i64 n, .slice A1 E.length c1] 28)).alloc (.cells #[.slice A2 D.S c2, .slice A3 D.S c3] 33)) = W0 at B0 B1 M0 ⊢
  have q0 : W0.cell? ⟨w.heap.size, 0, none⟩ = some (.int .i64 n) := B0.get rfl
  have q1 : W0.cell? ⟨w.heap.size, 1, none⟩ = some (.slice A1 E.length c1) := B0.get rfl
  have q2 : W0.cell? ⟨w.heap.size + 1, 0, none⟩ = some (.slice A2 D.S c2) := B1.get rfl
  have q3 : W0.cell? ⟨w.heap.size + 1, 1, none⟩ = some (.slice A3 D.S c3) := B1.get rfl
  have z0 : w.heap.size < W0.heap.size := B0.lt
  have z1 : w.heap.size + 1 < W0.heap.size := B1.lt
  have HM0 := Lib.hid M0
  clear B0 B1 M0
  go_cut [5] (fun s wx => Hid (JoinL w wx n (.slice A1 E.length c1) (.slice A2 D.S c2) (.slice A3 D.S c3) E D s))
  case rest =>
    obtain ⟨g, a, bb, G, rfl, H1, H2, H3, H4, H5, H6, H7, H8⟩ := hcut.out
    obtain ⟨wo, rfl⟩ : ∃ wo : World, wo = wc := ⟨_, rfl⟩
    have HG := Lib.hid H1
    have HAJ := Lib.hid H3
    have HGG := Lib.hid H4
    have HM := Lib.hid H7
    have hB : BefW wo wo.heap.size bb (D.S * 5) (fun _ => .slice none 0 0) (fun _ => []) (fun _ => 0) := ⟨Nat.le_refl _, H2, fun i _ => World.ownsRow_nil _ _ _ _, fun i _ k hk => by simp [Value.ownBlock] at hk⟩
    have HB := Lib.hid hB
    have n1 : g ≠ bb := H1.ne H2 (by decide)
    have z2 : g < wo.heap.size := H1.lt
    clear hcut H1 H2 H3 H4 H7 hB hmk q0 q1 q2 q3 z0 z1 HM0
    go_wp2_with fail
    go_loopw [23] (fun u wr => ∃ (s : Nat) (V : Nat → Value) (L : Nat → List Int) (ow : Nat → Nat), s ≤ D.S ∧ u = .int .i64 s ∧ Hid (BefW wr wo.heap.size bb (D.S * 5) V L ow) ∧ Hid (JDone D s 0 L) ∧ Hid (Mod [bb] wo wr)) (fun u _ => D.S - (intOf u).toNat)
    case atStart => exact ⟨0, _, _, _, Nat.zero_le _, rfl, HB, JDone.zero D, Mod.refl _ _⟩
    case round =>
      obtain ⟨s, V, L, ow, hs, rfl, HB1, HJ, HM1⟩ := hrel
      by_cases hlt : s < D.S
      · have hMw : Mod [] w wr := HM.out.then HM1.out (fun i hi => Or.inr (by simp only [List.mem_singleton] at hi; omega))
        rcases HN.out with ⟨_, h0, _⟩ | ⟨eb, eo, c', hv, _, _, _, hbl, hcell⟩
        · omega
        injection hv with hv1 hv2 hv3
        subst hv1
        have t0 := hMw.cell (hcell _ _ (nxCells_get D hlt (m := 0) (by omega))) (by simp)
        have t1 := hMw.cell (hcell _ _ (nxCells_get D hlt (m := 1) (by omega))) (by simp)
        have t2 := hMw.cell (hcell _ _ (nxCells_get D hlt (m := 2) (by omega))) (by simp)
        have t3 := hMw.cell (hcell _ _ (nxCells_get D hlt (m := 3) (by omega))) (by simp)
        have t4 := hMw.cell (hcell _ _ (nxCells_get D hlt (m := 4) (by omega))) (by simp)
        rw [Nat.add_zero] at t0
        rw [← Nat.add_assoc] at t1 t2 t3 t4
        have b1 : (0 : Int) ≤ (s : Int) := by omega
        have b2 : (s : Int) < (D.S : Int) := by omega
        clear hMw hcell hv2 hv3 HB
        go_wp2_with fail
        have hA1 : Mod [] wr (wr.alloc (.cells #[.int .i64 (D.nx s 0), .int .i64 (D.nx s 1), .int .i64 (D.nx s 2), .int .i64 (D.nx s 3), .int .i64 (D.nx s 4)] 64)) := (Mod.refl _ _).alloc _
        have HB2 := Lib.hid (HB1.out.mod0 hA1)
        have HM2 := Lib.hid (HM1.out.trans hA1.nil)
        clear hA1 t0 t1 t2 t3 t4
        generalize (wr.alloc (.cells #[.int .i64 (D.nx s 0), .int .i64 (D.nx s 1), .int .i64 (D.nx s 2), .int .i64 (D.nx s 3), .int .i64 (D.nx s 4)] 64)) = wq at HB2 HM2 ⊢
        generalize wr.heap.size = nb
        clear HB1 HM1
        go_loopw [29] (fun u wx => ∃ (j : Nat) (V : Nat → Value) (L : Nat → List Int) (ow : Nat → Nat), j ≤ 5 ∧ u = .int .i64 j ∧ Hid (BefW wx wo.heap.size bb (D.S * 5) V L ow) ∧ Hid (JDone D s j L) ∧ Hid (Mod [bb] wo wx)) (fun u _ => 5 - (intOf u).toNat)
        case atStart => exact ⟨0, _, _, _, Nat.zero_le _, rfl, HB2, HJ, HM2⟩
        case round =>
          obtain ⟨j, V, L, ow, hj, rfl, HB3, HJ3, HM3⟩ := hrel
          clear HJ HB2 HM2
          by_cases hj5 : j < 5
          · have hix := index5 (D.nx s) j hj5
            obtain ⟨tt, hto⟩ : ∃ tt, D.nx s j = tt := ⟨_, rfl⟩
            rw [hto] at hix
            have htS : tt < D.S := hto ▸ HD.out.2.2 s j hlt hj5
            have HTO := Lib.hid hto
            clear hto
            have hidx : tt * 5 + j < D.S * 5 := by omega
            obtain ⟨A4, c4, e4⟩ := own_any (HB3.out.r _ hidx)
            have v0 := HB3.out.b.get (rowsB_get (V := V) hidx)
            rw [e4] at v0
            have g5 : wr.cell? ⟨g, 5, none⟩ = some (.slice (some ⟨bb, 0, none⟩) D.S D.S) := HM3.out.cell (HG.out.get (i := 5) rfl) (by simpa using n1)
            have zb : bb < wr.heap.size := HB3.out.b.lt
            have zg : g < wr.heap.size := Nat.lt_of_lt_of_le z2 HM3.out.size
            have fb := HB3.out.b.frozen (tt * 5 + j)
            have b3 : (0 : Int) ≤ (j : Int) := by omega
            have b4 : (j : Int) < 5 := by omega
            have b5 : (0 : Int) ≤ (tt : Int) := by omega
            have b6 : (tt : Int) < (D.S : Int) := by omega
            have hln := HJ3.out.len htS hj5
            go_wp2_with fail
            have HR : Hid (wr.ownsRow 0 3 1 (.slice A4 (L (tt * 5 + j)).length c4) (L (tt * 5 + j)).length (ints (L (tt * 5 + j)))) := e4 ▸ HB3.out.r _ hidx
            have hne := own_ne_block HR.out HB3.out.b (by decide)
            have HNE : Hid (some bb ≠ (Value.slice A4 (L (tt * 5 + j)).length c4).ownBlock) := fun e => hne bb e.symm rfl
            have hne2 : some g ≠ (Value.slice A4 (L (tt * 5 + j)).length c4).ownBlock := fun e => own_ne_block HR.out (HM3.out.keep HG.out (by simpa using n1)) (by decide) g e.symm rfl
            have HNE2 := Lib.hid hne2
            have E4 := Lib.hid e4
            clear hne hne2 hix e4
            go_region_law ((refine step_app (by rfl) (.tmp 47) (.tmp 49) 22 (by rfl) appInt (.slice A4 (L (tt * 5 + j)).length c4) (L (tt * 5 + j)).length (ints (L (tt * 5 + j))) (by rfl) (own_alloc HR.out _) (wr.heap.size) 3 1 [.int .i64 s] (by rfl) rfl (Blk.new wr #[.int .i64 s] 3) (by simp [Value.oneCell']) (by omega) (by omega) ?_; intro gg d1 w1 ho hg hat hlt1; have M1 : Mod (Value.slice A4 (L (tt * 5 + j)).length c4).ownBlock.toList wr w1 := ((Mod.refl _ wr).alloc _).drew.grown hg (fun k hk => Or.inl (toList_own.2 hk)); have nb1 : bb ∉ (Value.slice A4 (L (tt * 5 + j)).length c4).ownBlock.toList := (fun h => HNE.out (toList_own.1 h).symm); have v1 := M1.cell v0 nb1; have fb1 := frozen_mod M1 v0 nb1 fb; have gg5 := M1.cell g5 (fun h => HNE2.out (toList_own.1 h).symm); have HO1 := Lib.hid ho; have HM1 := Lib.hid M1; have HT1 : Hid ((Value.slice A4 (L (tt * 5 + j)).length c4).ownBlock = some gg ∨ wr.heap.size ≤ gg) := hat.imp (fun h => h) (fun h => by rw [h]; simp); clear ho hg hat M1 nb1))
            all_goals go_wp2_with fail
            all_goals
              obtain ⟨V', ow', hB4⟩ := HB3.out.add hidx (s : Int) gg d1 HO1.out (by rw [E4.out]; exact HM1.out) (by rw [E4.out]; exact HT1.out)
              have hM4 : Mod [bb] wo w1 := HM3.out.then HM1.out (fun k hk => Or.inr ((HB3.out.ow _ hidx k (by rw [E4.out]; exact toList_own.1 hk)).2))
              have hJ4 := HJ3.out.step hj5
              rw [HTO.out] at hJ4
              exact ⟨⟨j + 1, V', _, ow', by omega, by go_num, hB4, hJ4, hM4.setCell (Or.inl (by simp)) _⟩, by simp [intOf]; omega⟩
          · obtain rfl : j = 5 := by omega
            go_wp2_with fail
            go_roundw
            case rel => exact ⟨s + 1, V, L, ow, by omega, by go_num, HB3, HJ3.out.next, HM3⟩
            case measure => simp [intOf]; omega
      · obtain rfl : s = D.S := by omega
        have hMw : Mod [] w wr := HM.out.then HM1.out (fun i hi => Or.inr (by simp only [List.mem_singleton] at hi; omega))
        have HMw := Lib.hid hMw
        clear hMw
        go_wp2_with fail
        go_ret
        refine ⟨g, rfl, HMw.out, F ++ (List.range wr.heap.size).filter (fun k => decide (w.heap.size ≤ k)), ⟨hn, hn0, hm, HOK.out, HD.out, .slice A1 E.length c1, .slice A2 D.S c2, .slice A3 D.S c3, a, bb, V, HM1.out.keep HG.out (by simpa using n1), ?_, ?_, ?_, ?_, ?_, HB1.out.b, ?_, ?_⟩, ?_⟩
        · have := HM1.out.size
          simp only [List.mem_append, List.mem_filter, List.mem_range, decide_eq_true_eq]
          exact Or.inr ⟨by omega, H5⟩
        · exact (hS0.out wr HMw.out).more (fun b hb => List.mem_append_left _ hb)
        · exact (HN.out.mod HMw.out (fun _ _ => by simp)).more (fun b hb => List.mem_append_left _ hb)
        · exact (HA.out.mod HMw.out (fun _ _ => by simp)).more (fun b hb => List.mem_append_left _ hb)
        · refine (HAJ.out.mod HM1.out (fun b hb => by have := (HGG.out b hb).2.2; simpa using this)).more (fun b hb => ?_)
          have h1 := HGG.out b hb
          have := HM1.out.size
          simp only [List.mem_append, List.mem_filter, List.mem_range, decide_eq_true_eq]
          exact Or.inr ⟨by omega, h1.1⟩
        · have := HB1.out.b.lt
          simp only [List.mem_append, List.mem_filter, List.mem_range, decide_eq_true_eq]
          exact Or.inr ⟨this, H6⟩
        · intro t m ht hm5
          have hidx : t * 5 + m < D.S * 5 := by omega
          have h1 := HB1.out.r _ hidx
          have h2 := HJ.out t m ht hm5
          rw [if_neg (by omega)] at h2
          rw [h2] at h1
          have h3 : (castL (befs D D.S t m)).length = (befs D D.S t m).length := by simp [castL]
          rw [h3] at h1
          refine Sl.own_in h1 (fun k hk => ?_)
          have h4 := (HB1.out.ow _ hidx k hk).2
          have h5 := none_lt h1 hk
          have := HM.out.size
          simp only [List.mem_append, List.mem_filter, List.mem_range, decide_eq_true_eq]
          exact Or.inr ⟨h5, by omega⟩
        · intro b hb
          simp only [List.mem_append, List.mem_filter, List.mem_range, decide_eq_true_eq] at hb
          exact hb.imp (fun h => h) (fun h => h.2)
  case first =>
    go_region_held3 (fun w' => w'.cell? ⟨w.heap.size, 0, none⟩ = some (.int .i64 n) ∧ w'.cell? ⟨w.heap.size, 1, none⟩ = some (.slice A1 E.length c1) ∧ w'.cell? ⟨w.heap.size + 1, 0, none⟩ = some (.slice A2 D.S c2) ∧ w'.cell? ⟨w.heap.size + 1, 1, none⟩ = some (.slice A3 D.S c3)) (go_keep)
      ((go_at_call 81; refine (adjNew_calls n _ E F _ (by omega) hm (hS0.out _ (by first | exact HM0.out.drew | exact (HM0.out.alloc _).drew)) HOK.out).mono ?_; rintro e w1 ⟨a, rfl, hm1, G, hadj, hG⟩; have M1 : Mod [] W0 w1 := (by first | exact ((Mod.refl _ _).drew).trans hm1 | exact (((Mod.refl _ _).alloc _).drew).trans hm1); have p0 := M1.cell q0 (by simp); have p1 := M1.cell q1 (by simp); have p2 := M1.cell q2 (by simp); have p3 := M1.cell q3 (by simp); have y0 := Nat.lt_of_lt_of_le z0 M1.size; have y1 := Nat.lt_of_lt_of_le z1 M1.size; have HM1 := Lib.hid M1; have HAJ := Lib.hid hadj; have HG := Lib.hid hG; have HMM := Lib.hid hm1; clear M1 hadj hG hm1))
    all_goals go_wp2_with fail
    all_goals go_meet
    · have hw := HM0.out.size
      have hw1 := HM1.out.size
      have hg := HG.out
      have X1 := (Blk.new w1 (zrow #[.slice none 0 0, .slice none 0 0, .slice none 0 0, .slice none 0 0, .slice none 0 0] D.S) 145).alloc (.cells #[.int .i64 n, .slice A1 E.length c1, .pointer (some ⟨a, 0, none⟩), .slice A2 D.S c2, .slice A3 D.S c3, .slice (some ⟨w1.heap.size, 0, none⟩) D.S D.S] 144)
      rw [zrow_rows] at X1
      have X2 := Blk.new' (w := w1.alloc (.cells (zrow #[.slice none 0 0, .slice none 0 0, .slice none 0 0, .slice none 0 0, .slice none 0 0] D.S) 145)) #[.int .i64 n, .slice A1 E.length c1, .pointer (some ⟨a, 0, none⟩), .slice A2 D.S c2, .slice A3 D.S c3, .slice (some ⟨w1.heap.size, 0, none⟩) D.S D.S] 144 (k := w1.heap.size + 1) (by simp)
      have MM := ((Mod.refl [] w1).alloc (.cells (zrow #[.slice none 0 0, .slice none 0 0, .slice none 0 0, .slice none 0 0, .slice none 0 0] D.S) 145)).alloc (.cells #[.int .i64 n, .slice A1 E.length c1, .pointer (some ⟨a, 0, none⟩), .slice A2 D.S c2, .slice A3 D.S c3, .slice (some ⟨w1.heap.size, 0, none⟩) D.S D.S] 144)
      refine ⟨_, a, _, G, rfl, X2, X1, HAJ.out.mod MM (fun _ _ => by simp), fun b hb => ?_, by omega, by omega, (HM0.out.trans HM1.out).trans MM, MM.cell p2 (by simp)⟩
      have := hg b hb
      simp at this ⊢
      omega
    · have hw := HM0.out.size
      have hw1 := HM1.out.size
      have hg := HG.out
      have hmm := HMM.out
      have X1 := ((((Blk.new W0 (zrow #[.slice none 0 0, .slice none 0 0, .slice none 0 0, .slice none 0 0, .slice none 0 0] D.S) 145).drew).mod hmm (by simp))).alloc (.cells #[.int .i64 n, .slice A1 E.length c1, .pointer (some ⟨a, 0, none⟩), .slice A2 D.S c2, .slice A3 D.S c3, .slice (some ⟨W0.heap.size, 0, none⟩) D.S D.S] 144)
      rw [zrow_rows] at X1
      have X2 := Blk.new w1 #[.int .i64 n, .slice A1 E.length c1, .pointer (some ⟨a, 0, none⟩), .slice A2 D.S c2, .slice A3 D.S c3, .slice (some ⟨W0.heap.size, 0, none⟩) D.S D.S] 144
      have MM := (Mod.refl [] w1).alloc (.cells #[.int .i64 n, .slice A1 E.length c1, .pointer (some ⟨a, 0, none⟩), .slice A2 D.S c2, .slice A3 D.S c3, .slice (some ⟨W0.heap.size, 0, none⟩) D.S D.S] 144)
      refine ⟨_, a, _, G, rfl, X2, X1, HAJ.out.mod MM (fun _ _ => by simp), fun b hb => ?_, by omega, by omega, (HM0.out.trans HM1.out).trans MM, MM.cell p2 (by simp)⟩
      have := hg b hb
      simp at this ⊢
      omega
end Go.Proofs.Ytekeondobdjppaa
