/- adj.New: walk. -/
import Derived.Test.YtekeondobdjppaaAdj1
import Derived.Test.YtekeondobdjppaaAdj3
import Derived.Test.YtekeondobdjppaaAdjW
import Derived.Test.YtekeondobdjppaaNet
import Derived.Deep.DeepCutAuto
namespace Go.Proofs.Ytekeondobdjppaa
open Go.RowKit

theorem appEnds : AppT Try.prog 185 190 (.agg #[.slice none 0 0, .slice none 0 0]) 2 48 := AppT.mk' (by kernel_rfl) (by kernel_rfl) rfl (by decide)

def nilV : Nat → Value × Value := fun _ => (.slice none 0 0, .slice none 0 0)
theorem zrow_tab (n : Nat) : (zrow #[.slice none 0 0, .slice none 0 0] n).toList = tab n nilV := by
  simp only [zrow]
  induction n with
  | zero => rfl
  | succ n ih =>
    rw [tab_succ, ← ih, List.replicate_succ']
    simp [nilV]

/-- What New has laid ahead of its loop. -/
def Laid (w wx : World) (n : Nat) (s : Value) : Prop := ∃ a ob ib ev, s = .pointer (some ⟨a, 0, none⟩) ∧ Blk wx a 187 [.int .i64 n, ev, .slice (some ⟨ob, 0, none⟩) n n, .slice (some ⟨ib, 0, none⟩) n n] ∧
  Blk wx ob 190 (tab n nilV) ∧ Blk wx ib 190 (tab n nilV) ∧ ob ≠ ib ∧ w.heap.size ≤ a ∧ w.heap.size ≤ ob ∧ w.heap.size ≤ ib ∧ Mod [] w wx
def Laid0 (w wx : World) (n : Nat) (ev : Value) (s : Value) : Prop := ∃ a ob ib, s = .pointer (some ⟨a, 0, none⟩) ∧ Blk wx a 187 [.int .i64 0, .slice none 0 0, .slice (some ⟨ob, 0, none⟩) n n, .slice (some ⟨ib, 0, none⟩) n n] ∧
  Blk wx ob 190 (tab n nilV) ∧ Blk wx ib 190 (tab n nilV) ∧ ob ≠ ib ∧ w.heap.size < a ∧ w.heap.size ≤ ob ∧ w.heap.size ≤ ib ∧ Mod [] w wx ∧ wx.cell? ⟨w.heap.size, 0, none⟩ = some (.int .i64 n) ∧ wx.cell? ⟨w.heap.size, 1, none⟩ = some ev

theorem laid0_ab (w : World) (n : Nat) (ev : Value) (b1 b2 : Nat) (h : (b1 = w.heap.size + 1 ∧ b2 = w.heap.size + 2) ∨ (b1 = w.heap.size + 2 ∧ b2 = w.heap.size + 1)) :
    Laid0 w (((((w.alloc (.cells #[.int .i64 n, ev] 28)).alloc (.cells (zrow #[.slice none 0 0, .slice none 0 0] n) 190)).alloc (.cells (zrow #[.slice none 0 0, .slice none 0 0] n) 190)).alloc (.cells #[.int .i64 0, .slice none 0 0, .slice (some ⟨b1, 0, none⟩) n n, .slice (some ⟨b2, 0, none⟩) n n] 187)).drew) n ev (.pointer (some ⟨w.heap.size + 3, 0, none⟩)) := by
  have z1 := Blk.new w #[.int .i64 n, ev] 28
  have z2 := Blk.new' (w := w.alloc (.cells #[.int .i64 n, ev] 28)) (zrow #[.slice none 0 0, .slice none 0 0] n) 190 (k := w.heap.size + 1) (by simp)
  have z3 := Blk.new' (w := (w.alloc (.cells #[.int .i64 n, ev] 28)).alloc (.cells (zrow #[.slice none 0 0, .slice none 0 0] n) 190)) (zrow #[.slice none 0 0, .slice none 0 0] n) 190 (k := w.heap.size + 2) (by simp)
  rw [zrow_tab] at z2 z3
  have z2' := (z2.alloc (.cells (zrow #[.slice none 0 0, .slice none 0 0] n) 190)).alloc (.cells #[.int .i64 0, .slice none 0 0, .slice (some ⟨b1, 0, none⟩) n n, .slice (some ⟨b2, 0, none⟩) n n] 187)
  have z3' := z3.alloc (.cells #[.int .i64 0, .slice none 0 0, .slice (some ⟨b1, 0, none⟩) n n, .slice (some ⟨b2, 0, none⟩) n n] 187)
  have z1' := ((z1.alloc (.cells (zrow #[.slice none 0 0, .slice none 0 0] n) 190)).alloc (.cells (zrow #[.slice none 0 0, .slice none 0 0] n) 190)).alloc (.cells #[.int .i64 0, .slice none 0 0, .slice (some ⟨b1, 0, none⟩) n n, .slice (some ⟨b2, 0, none⟩) n n] 187)
  have z4 := Blk.new' (w := ((w.alloc (.cells #[.int .i64 n, ev] 28)).alloc (.cells (zrow #[.slice none 0 0, .slice none 0 0] n) 190)).alloc (.cells (zrow #[.slice none 0 0, .slice none 0 0] n) 190)) #[.int .i64 0, .slice none 0 0, .slice (some ⟨b1, 0, none⟩) n n, .slice (some ⟨b2, 0, none⟩) n n] 187 (k := w.heap.size + 3) (by simp)
  refine ⟨_, b1, b2, rfl, z4.drew, ?_, ?_, by omega, by omega, by omega, by omega, (((((Mod.refl _ _).alloc _).alloc _).alloc _).alloc _).drew, z1'.drew.get rfl, z1'.drew.get rfl⟩
  · rcases h with ⟨rfl, _⟩ | ⟨rfl, _⟩
    · exact z2'.drew
    · exact z3'.drew
  · rcases h with ⟨_, rfl⟩ | ⟨_, rfl⟩
    · exact z3'.drew
    · exact z2'.drew

/-- What the lists hold behind k edges. -/
def Done (E : List Ed) (k : Nat) (LO LI : Nat → List Int × List Int) : Prop := ∀ v, (LO v).1 = castL (outsK E k v) ∧ (LO v).2.length ≤ k ∧ (LI v).1 = castL (insK E k v) ∧ (LI v).2.length ≤ k
theorem Done.zero (E : List Ed) : Done E 0 (fun _ => ([], [])) (fun _ => ([], [])) := fun _ => ⟨rfl, Nat.le_refl _, rfl, Nat.le_refl _⟩
theorem Done.len {E : List Ed} {k : Nat} {LO LI : Nat → List Int × List Int} (h : Done E k LO LI) (v : Nat) : (LO v).1.length ≤ k ∧ (LO v).2.length ≤ k ∧ (LI v).1.length ≤ k ∧ (LI v).2.length ≤ k := by
  obtain ⟨h1, h2, h3, h4⟩ := h v
  refine ⟨?_, h2, ?_, h4⟩
  · rw [h1]; simp only [castL, List.length_map, outsK]; exact Nat.le_trans (List.length_filter_le _ _) (by simp)
  · rw [h3]; simp only [castL, List.length_map, insK]; exact Nat.le_trans (List.length_filter_le _ _) (by simp)
theorem Done.step {E : List Ed} {k : Nat} {LO LI : Nat → List Int × List Int} (h : Done E k LO LI) {e : Ed} (he : E[k]? = some e) : Done E (k + 1) (updL LO e.f k e.t) (updL LI e.t k e.f) := by
  intro v
  obtain ⟨h1, h2, h3, h4⟩ := h v
  have hl := h.len v
  rw [outsK_succ he, insK_succ he]
  refine ⟨?_, ?_, ?_, ?_⟩
  · by_cases c : v = e.f
    · subst c; simp only [updL, if_true, h1, castL]; simp
    · simp only [updL, if_neg c, if_neg (fun q => c (Eq.symm q)), h1]
  · by_cases c : v = e.f
    · subst c; simp only [updL, if_true, List.length_append]; simp; omega
    · simp only [updL, if_neg c]; omega
  · by_cases c : v = e.t
    · subst c; simp only [updL, if_true, h3, castL]; simp
    · simp only [updL, if_neg c, if_neg (fun q => c (Eq.symm q)), h3]
  · by_cases c : v = e.t
    · subst c; simp only [updL, if_true, List.length_append]; simp; omega
    · simp only [updL, if_neg c]; omega

theorem Sl.own_in {w : World} {base : Nat} {e : TypeId} {size n : Nat} {v : Value} {xs : List Value} {F : List Nat} (h : w.ownsRow base e size v n xs) (hF : ∀ k, v.ownBlock = some k → k ∈ F) : Sl w F v n xs :=
  (Sl.of_own h).more (fun b hb => hF b (toList_own.1 hb))

/-- When it is made it can be read. -/
theorem finish {w : World} {lo a ob ib n : Nat} {ev : Value} {VO VI : Nat → Value × Value} {LO LI : Nat → List Int × List Int} {ow : Nat → Nat} {E : List Ed} (h : AdjW w lo a ob ib n ev VO VI LO LI ow) (hd : Done E E.length LO LI) (hl : E.length < 1000000000) :
    ∃ G, AdjR w G a n (fun v => castL (outsK E E.length v)) (fun v => castL (insK E E.length v)) ∧ ∀ b ∈ G, lo ≤ b ∧ b < w.heap.size := by
  have hmem : ∀ k, lo ≤ k → k < w.heap.size → k ∈ (List.range w.heap.size).filter (fun k => decide (lo ≤ k)) := fun k h1 h2 => by simp [h1, h2]
  refine ⟨(List.range w.heap.size).filter (fun k => decide (lo ≤ k)), ⟨h.n_le, ob, ib, ev, VO, VI, h.ab, h.o, h.i, hmem _ h.la h.ab.lt, hmem _ h.lo1 h.o.lt, hmem _ h.lo2 h.i.lt, fun v hv => ?_, fun v hv => ?_⟩, fun b hb => by simp only [List.mem_filter, decide_eq_true_eq, List.mem_range] at hb; exact ⟨hb.2, hb.1⟩⟩
  · have l := hd.len v
    simp only []
    rw [← (hd v).1]
    obtain ⟨A, m, e⟩ := own_any (h.o2 v hv)
    exact ⟨by omega, Sl.own_in (h.o1 v hv) (fun k hk => hmem k ((h.ow v hv k).1 hk).2 (none_lt (h.o1 v hv) hk)), _, _, _, e⟩
  · have l := hd.len v
    simp only []
    rw [← (hd v).2.2.1]
    obtain ⟨A, m, e⟩ := own_any (h.i2 v hv)
    exact ⟨by omega, Sl.own_in (h.i1 v hv) (fun k hk => hmem k ((h.ow v hv k).2.2.1 hk).2 (none_lt (h.i1 v hv) hk)), _, _, _, e⟩

set_option maxRecDepth 100000 in
set_option maxHeartbeats 2000000 in
theorem adjNew_calls (n : Nat) (ev : Value) (E : List Ed) (F : List Nat) (w : World) (hn : n ≤ 1000000) (hm : E.length < 1000000) (hE : Sl w F ev E.length (edCells E)) (hok : EdOk n E) :
    Calls Try.prog 81 #[.agg #[.int .i64 n, ev]] w fun e w' => ∃ a, e = .returned (.pointer (some ⟨a, 0, none⟩)) ∧ Mod [] w w' ∧ ∃ G, AdjR w' G a n (fun v => castL (outsK E E.length v)) (fun v => castL (insK E E.length v)) ∧ ∀ b ∈ G, w.heap.size ≤ b ∧ b < w'.heap.size := by
  obtain ⟨A, c, rfl, g1, g2⟩ := hE.form
  have HE := Lib.hid hE
  have HOK := Lib.hid hok
  clear hE hok
  have hmk := fun W => run_mk appEnds n (by omega) (by omega) W
  go_enter Try.func81, Try.ntmps81
  go_upto_region 1 with fail
  go_cut [3] (fun s wx => Hid (Laid0 w wx n (.slice A E.length c) s))
  case first =>
    go_region
    all_goals go_wp2_with fail
    all_goals go_meet
    · exact laid0_ab w n (.slice A E.length c) _ _ (Or.inl ⟨rfl, rfl⟩)
    · exact laid0_ab w n (.slice A E.length c) _ _ (Or.inr ⟨rfl, rfl⟩)
  case rest =>
    obtain ⟨a, ob, ib, rfl, H1, H2, H3, H4, H5, H6, H7, HM, c0, c1⟩ := hcut
    have HH := Lib.hid (And.intro H1 (And.intro H2 (And.intro H3 (And.intro H4 (And.intro H6 (And.intro H7 HM))))))
    have q0 : wc.cell? ⟨a, 0, none⟩ = some (.int .i64 0) := H1.get rfl
    have q1 : wc.cell? ⟨a, 1, none⟩ = some (.slice none 0 0) := H1.get rfl
    have f0 := H1.frozen 0
    have f1 := H1.frozen 1
    clear H1 H2 H3 H4 H6 H7 HM
    go_upto_region 2 with fail
    go_cut [] (fun wx => Hid (Laid w wx n (.pointer (some ⟨a, 0, none⟩)) ∧ wx.cell? ⟨w.heap.size, 1, none⟩ = some (.slice A E.length c)))
    case first =>
      have hS : Hid (∀ W, Mod [] wc W → Sl W F (.slice A E.length c) E.length (edCells E)) := fun W hW => (HE.out.mod HH.out.2.2.2.2.2.2 (fun _ _ => by simp)).mod hW (fun _ _ => by simp)
      have hz : a < wc.heap.size := World.block_lt_of_cell? wc _ q0
      go_region_with ((go_at_call 111; go_loud (refine (cloneEdge_calls (hS.out _ (Mod.refl _ _).drew) (by omega) (edCells_length E) (edCells_one E)).mono ?_); rintro e w1 ⟨v', rfl, ho, hm1, hf⟩; obtain ⟨A', c', rfl⟩ := own_any ho; have HM1 := Lib.hid (((Mod.refl [] wc).drew).trans hm1); have p0 := HM1.out.cell q0 (by simp); have p1 := HM1.out.cell q1 (by simp); have p2 := HM1.out.cell c0 (by simp); have e0 := frozen_mod HM1.out q0 (by simp) f0; have e1 := frozen_mod HM1.out q1 (by simp) f1; clear ho hm1 hf))
      all_goals go_wp2_with fail
      all_goals go_meet
      all_goals
        obtain ⟨H1, H2, H3, H4, H6, H7, HM⟩ := HH.out
        have hne1 : a ≠ ob := H1.ne H2 (by decide)
        have hne2 : a ≠ ib := H1.ne H3 (by decide)
        have K1 := ((H1.mod HM1.out (by simp)).set 0 (.int .i64 n)).set 1 (.slice A' E.length c')
        have K2 := ((H2.mod HM1.out (by simp)).far (p := ⟨a, 0, none⟩) (Ne.symm hne1) (.int .i64 n)).far (p := ⟨a, 1, none⟩) (Ne.symm hne1) (.slice A' E.length c')
        have K3 := ((H3.mod HM1.out (by simp)).far (p := ⟨a, 0, none⟩) (Ne.symm hne2) (.int .i64 n)).far (p := ⟨a, 1, none⟩) (Ne.symm hne2) (.slice A' E.length c')
        have K4 := ((HM.trans HM1.out).setCell (p := ⟨a, 0, none⟩) (Or.inr (by simp only; omega)) (.int .i64 n)).setCell (p := ⟨a, 1, none⟩) (Or.inr (by simp only; omega)) (.slice A' E.length c')
        have K5 : (w1.setCell ⟨a, 0, none⟩ (.int .i64 n)).cell? ⟨w.heap.size, 1, none⟩ = some (.slice A E.length c) := ((Mod.refl [a] w1).setCell (p := ⟨a, 0, none⟩) (Or.inl (by simp)) _).cell (HM1.out.cell c1 (by simp)) (by simp; omega)
        exact ⟨⟨a, ob, ib, .slice A' E.length c', rfl, K1, K2, K3, H4, by omega, H6, H7, K4⟩, ((Mod.refl [a] _).setCell (p := ⟨a, 1, none⟩) (Or.inl (by simp)) _).cell K5 (by simp; omega)⟩
    case rest =>
      obtain ⟨⟨a', ob', ib', ev', hae, J1, J2, J3, J4, J5, J6, J7, JM⟩, hb0⟩ := hcut.out
      injection hae with hae
      injection hae with hae
      injection hae with hae
      subst hae
      have HJ : Hid (AdjW wc w.heap.size a ob' ib' n ev' nilV nilV (fun _ => ([], [])) (fun _ => ([], [])) (fun _ => 0)) := ⟨hn, JM.size, J1, J2, J3, J4, J5, J6, J7, fun v _ => World.ownsRow_nil _ _ _ _, fun v _ => World.ownsRow_nil _ _ _ _, fun v _ => World.ownsRow_nil _ _ _ _, fun v _ => World.ownsRow_nil _ _ _ _, fun v _ k => by simp [nilV, Value.ownBlock]⟩
      have HJM := Lib.hid JM
      clear J1 J2 J3 J4 J5 J6 J7 JM HH q0 q1 f0 f1 c0 c1 hcut hmk
      go_wp2_with fail
      go_loopw [28] (fun u wr => ∃ (k : Nat) (VO VI : Nat → Value × Value) (LO LI : Nat → List Int × List Int) (ow : Nat → Nat), k ≤ E.length ∧ u = .int .i64 k ∧ Hid (AdjW wr w.heap.size a ob' ib' n ev' VO VI LO LI ow) ∧ Hid (Done E k LO LI) ∧ Hid (Mod [] w wr)) (fun u _ => E.length - (intOf u).toNat)
      case atStart => exact ⟨0, _, _, _, _, _, Nat.zero_le _, rfl, HJ, Done.zero E, HJM⟩
      case round =>
        obtain ⟨k, VO, VI, LO, LI, ow, hk, rfl, HA, HD, HM⟩ := hrel
        clear HJ HJM hb0
        by_cases hlt : k < E.length
        · obtain ⟨e, he⟩ : ∃ e, E[k]? = some e := ⟨_, List.getElem?_eq_getElem hlt⟩
          have hok := HOK.out e (List.mem_of_getElem? he)
          rcases HE.out with ⟨_, h0, _⟩ | ⟨eb, eo, c', hv, _, _, _, hbl, hcell⟩
          · omega
          injection hv with hv1 hv2 hv3
          subst hv1
          have hc := edCells_get E k e he
          have t0 := HM.out.cell (hcell _ _ hc.1) (by simp)
          have t1 := HM.out.cell (hcell _ _ hc.2.1) (by simp)
          have t2 := HM.out.cell (hcell _ _ hc.2.2.1) (by simp)
          have t3 := HM.out.cell (hcell _ _ hc.2.2.2) (by simp)
          rw [← Nat.add_assoc] at t1 t2 t3
          clear hcell hc hv2 hv3
          have a2 : wr.cell? ⟨a, 2, none⟩ = some (.slice (some ⟨ob', 0, none⟩) n n) := HA.out.ab.get rfl
          have a3 : wr.cell? ⟨a, 3, none⟩ = some (.slice (some ⟨ib', 0, none⟩) n n) := HA.out.ab.get rfl
          have za : a < wr.heap.size := HA.out.ab.lt
          have b1 : (0 : Int) ≤ (k : Int) := by omega
          have b2 : (k : Int) < (E.length : Int) := by omega
          have b3 : (0 : Int) ≤ (e.f : Int) := by omega
          have b4 : (e.f : Int) < (n : Int) := by omega
          have b5 : (0 : Int) ≤ (e.t : Int) := by omega
          have b6 : (e.t : Int) < (n : Int) := by omega
          have HE' := Lib.hid he
          clear he
          go_wp2_with fail
          have hB := Blk.new wr #[.int .i64 e.f, .int .i64 e.t, .int .i64 e.m, .int .i64 e.c] 44
          have hM : Mod [] wr (wr.alloc (.cells #[.int .i64 e.f, .int .i64 e.t, .int .i64 e.m, .int .i64 e.c] 44)) := (Mod.refl _ _).alloc _
          generalize (wr.alloc (.cells #[.int .i64 e.f, .int .i64 e.t, .int .i64 e.m, .int .i64 e.c] 44)) = W at hB hM ⊢
          generalize wr.heap.size = B at hB ⊢
          have HA2 := Lib.hid (HA.out.mod0 hM)
          have HM2 := Lib.hid (HM.out.trans hM)
          have s0 : W.cell? ⟨B, 0, none⟩ = some (.int .i64 e.f) := hB.get rfl
          have s1 : W.cell? ⟨B, 1, none⟩ = some (.int .i64 e.t) := hB.get rfl
          have w2 := hM.cell a2 (by simp)
          have w3 := hM.cell a3 (by simp)
          have HB := Lib.hid hB
          clear hB hM t0 t1 t2 t3 a2 a3
          have ef := hok.1
          have et := hok.2.1
          clear hok
          refine (is_raw a n e.f _ _ _ ef w2).mono ?_
          rintro _ _ ⟨rfl, rfl⟩
          go_wp2_with fail
          refine (is_raw a n e.t _ _ _ et w2).mono ?_
          rintro _ _ ⟨rfl, rfl⟩
          go_wp2_with fail
          go_still_tail 10, (by kernel_rfl)
          change wpList _ _ _ _ _ W.drew
          have HA3 := Lib.hid (HA2.out.mod0 (Mod.refl [] W).drew)
          have HM3 := Lib.hid (HM2.out.drew)
          have s0' : W.drew.cell? ⟨B, 0, none⟩ = some (.int .i64 e.f) := s0
          have s1' : W.drew.cell? ⟨B, 1, none⟩ = some (.int .i64 e.t) := s1
          have HB3 : Hid (Blk W.drew B _ _) := HB.out.drew
          clear s0 s1 w2 w3 HA2 HM2 HB
          generalize W.drew = W2 at *
          go_wp2_with fail
          have hd := HD.out.len
          refine (HA3.out.out_add ef k e.t (by have := hd e.f; omega) (by have := hd e.f; omega)).mono ?_
          rintro _ W3 ⟨rfl, ⟨VO', ow', hA4⟩, G, hG, hlo⟩
          have hBG : B ∉ G := fun hb => by
            have := (hlo B hb).2 _ _ HB3.out
            exact absurd this (by decide)
          have r0 := hG.cell s0' hBG
          have r1 := hG.cell s1' hBG
          have a3 : W3.cell? ⟨a, 3, none⟩ = some (.slice (some ⟨ib', 0, none⟩) n n) := hA4.ab.get rfl
          have HA4 := Lib.hid hA4
          have HM4 := Lib.hid (HM3.out.then hG (fun i hi => Or.inr (hlo i hi).1))
          clear s0' s1' hA4 hG hlo hBG hd HB3 HA3 HM3
          go_wp2_with fail
          go_still_tail 10, (by kernel_rfl)
          change wpList _ _ _ _ _ W3.drew
          have HA5 := Lib.hid (HA4.out.mod0 (Mod.refl [] W3).drew)
          have HM5 := Lib.hid (HM4.out.drew)
          clear r0 r1 a3 HA4 HM4
          generalize W3.drew = W4 at *
          go_wp2_with fail
          have hd := HD.out.len
          refine (HA5.out.in_add et k e.f (by have := hd e.t; omega) (by have := hd e.t; omega)).mono ?_
          rintro _ W5 ⟨rfl, ⟨VI', ow'', hA6⟩, G, hG, hlo⟩
          have HA6 := Lib.hid hA6
          have HM6 := Lib.hid (HM5.out.then hG (fun i hi => Or.inr (hlo i hi).1))
          clear hA6 hG hlo hd HA5 HM5
          go_wp2_with fail
          go_roundw
          case rel => exact ⟨k + 1, VO', VI', _, _, ow'', by omega, by go_num, HA6, HD.out.step HE'.out, HM6⟩
          case measure => simp [intOf]; omega
        · obtain rfl : k = E.length := by omega
          go_wp2_with fail
          go_ret
          exact ⟨_, rfl, HM.out, finish HA.out HD.out (by omega)⟩
end Go.Proofs.Ytekeondobdjppaa
