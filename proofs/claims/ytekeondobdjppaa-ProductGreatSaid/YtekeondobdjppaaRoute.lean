/- Ways of the least cost, least costs: walks of Route and Costs. -/
import Derived.Test.YtekeondobdjppaaProd2
import Derived.Test.YtekeondobdjppaaAll
import Derived.Test.YtekeondobdjppaaEdges
namespace Go.Proofs.Ytekeondobdjppaa
open Go.RowKit

def tightF (w : World) (F : List Nat) : List Nat := F.filter (fun b => decide (b < w.heap.size))
theorem mem_tight {w : World} {F : List Nat} {b : Nat} : b ∈ tightF w F ↔ b ∈ F ∧ b < w.heap.size := by simp [tightF]
theorem Sl.tight {w : World} {F : List Nat} {v : Value} {n : Nat} {cs : List Value} (h : Sl w F v n cs) : Sl w (tightF w F) v n cs := by
  rcases h with h | ⟨b, o, cap, hv, hn, hc, hb, hl, hr⟩
  · exact .inl h
  · exact .inr ⟨b, o, cap, hv, hn, hc, mem_tight.2 ⟨hb, hl⟩, hl, hr⟩
theorem AdjR.tight {w : World} {F : List Nat} {a n : Nat} {O I : Nat → List Int} (h : AdjR w F a n O I) : AdjR w (tightF w F) a n O I := by
  obtain ⟨hn, ob, ib, ev, VO, VI, h1, h2, h3, h4, h5, h6, h7, h8⟩ := h
  exact ⟨hn, ob, ib, ev, VO, VI, h1, h2, h3, mem_tight.2 ⟨h4, h1.lt⟩, mem_tight.2 ⟨h5, h2.lt⟩, mem_tight.2 ⟨h6, h3.lt⟩, fun v hv => ⟨(h7 v hv).1, (h7 v hv).2.1.tight, (h7 v hv).2.2⟩, fun v hv => ⟨(h8 v hv).1, (h8 v hv).2.1.tight, (h8 v hv).2.2⟩⟩
theorem GraphR.tight {w : World} {F : List Nat} {g n : Nat} {E : List Ed} {D : Dm} (h : GraphR w F g n E D) : GraphR w (tightF w F) g n E D := by
  obtain ⟨h1, h0, h2, h3, h4, ev, nv, av, a, bb, VB, k1, k2, k3, k4, k5, k6, k7, k8, k9⟩ := h
  exact ⟨h1, h0, h2, h3, h4, ev, nv, av, a, bb, VB, k1, mem_tight.2 ⟨k2, k1.lt⟩, k3.tight, k4.tight, k5.tight, k6.tight, k7, mem_tight.2 ⟨k8, k7.lt⟩, fun s m h1 h2 => (k9 s m h1 h2).tight⟩

/-- A network and a machine, as a call is handed them. -/
structure Given (w : World) (F : List Nat) (n : Nat) (ev : Value) (E : List Ed) (nv av : Value) (D : Dm) : Prop where
  n60 : n ≤ 60
  n0 : 0 < n
  l : E.length ≤ 1000
  ok : EdOk n E
  d : DmOk D
  e : Sl w F ev E.length (edCells E)
  nx : Sl w F nv D.S (nxCells D D.S)
  ac : Sl w F av D.S (acCells D D.S)
theorem Given.mod {w w' : World} {F G : List Nat} {n : Nat} {ev : Value} {E : List Ed} {nv av : Value} {D : Dm} (h : Given w F n ev E nv av D) (hm : Mod G w w') (hd : ∀ b ∈ F, b ∉ G) : Given w' F n ev E nv av D :=
  ⟨h.n60, h.n0, h.l, h.ok, h.d, h.e.mod hm hd, h.nx.mod hm hd, h.ac.mod hm hd⟩
theorem Given.mod0 {w w' : World} {F : List Nat} {n : Nat} {ev : Value} {E : List Ed} {nv av : Value} {D : Dm} (h : Given w F n ev E nv av D) (hm : Mod [] w w') : Given w' F n ev E nv av D := h.mod hm (fun _ _ => by simp)
theorem Given.N {w : World} {F : List Nat} {n : Nat} {ev : Value} {E : List Ed} {nv av : Value} {D : Dm} (h : Given w F n ev E nv av D) : n * D.S ≤ 120000 := Nat.le_trans (Nat.mul_le_mul h.n60 h.d.2.1) (by omega)
theorem Given.join {w : World} {F : List Nat} {n : Nat} {ev : Value} {E : List Ed} {nv av : Value} {D : Dm} (h : Given w F n ev E nv av D) :
    Calls Try.prog 43 #[.agg #[.int .i64 n, ev], .agg #[nv, av]] w fun e w' => ∃ g, e = .returned (.pointer (some ⟨g, 0, none⟩)) ∧ Mod [] w w' ∧ ∃ F', GraphR w' F' g n E D ∧ ∀ b ∈ F', b < w'.heap.size := by
  refine (join_calls n ev nv av E D F w h.n60 h.n0 (by have := h.l; omega) h.ok h.d h.e h.nx h.ac).mono ?_
  rintro e w' ⟨g, rfl, hm, F', hg, _⟩
  exact ⟨g, rfl, hm, _, hg.tight, fun b hb => (mem_tight.1 hb).2⟩
/-- A block that is known whole is owned. -/
theorem World.ownsRow_of_blk {w : World} {b n : Nat} {T : TypeId} {cs : List Value} (h : Blk w b T cs) (hl : cs.length = n) (hm : n ≤ maxLen) : w.ownsRow 0 T 1 (.slice (some ⟨b, 0, none⟩) n n) n cs :=
  ⟨by omega, .inr ⟨b, n, cs.toArray, rfl, Nat.zero_le _, h, Nat.le_refl _, hm, by simp [hl], by rw [Nat.mul_one]; exact List.take_of_length_le (by simp; omega)⟩⟩
/-- A search from one spot, begun. -/
theorem begin_one {w : World} {Fg : List Nat} {g n v b c : Nat} {E : List Ed} {D : Dm} {fk : Nat} (h : GraphR w Fg g n E D) (hgl : ∀ b ∈ Fg, b < w.heap.size) (hv : v < n) (hB : Blk w b 84 [.int .i64 v, .int .i64 0]) (hc : 1 ≤ c ∧ c ≤ 9223372036854775807) :
    Calls Try.prog 44 #[.pointer (some ⟨g, 0, none⟩), .func (.func fk) #[] #[], .slice (some ⟨b, 0, none⟩) 1 c] w fun e w' => ∃ sp cb eb fb q Fq, e = .returned (.pointer (some ⟨sp, 0, none⟩)) ∧
      ∃ st, On (fun y => y = v * D.S) (hopsOn E D) n E D 0 st 0 ∧ (∀ x, st.c x = -1) ∧ Se w' sp cb eb fb q Fq Fg (.func (.func fk) #[] #[]) g n E D st 0 ∧ Mod [] w w' ∧ ∀ b ∈ seF sp cb eb fb Fq, w.heap.size ≤ b := by
  have hS := h.2.2.2.2.1.1
  have hs : Sl w [b] (.slice (some ⟨b, 0, none⟩) 1 c) [((v, 0) : Sp)].length (spCells [(v, 0)]) := by
    refine Or.inr ⟨b, 0, c, rfl, hc.1, hc.2, by simp, hB.lt, fun j u hu => ?_⟩
    rw [Nat.zero_add]
    exact hB.get hu
  refine (begin_calls (fk := fk) h hgl hs (fun x hx => ?_)).mono ?_
  · simp only [List.mem_singleton] at hx
    subst hx
    exact ⟨hv, hS⟩
  · rintro e w' ⟨sp, cb, eb, fb, q, Fq, rfl, h1, h2, h3⟩
    refine ⟨sp, cb, eb, fb, q, Fq, rfl, _, ?_, fun x => rfl, h1, h2, h3⟩
    refine On.zero (fun id k hk => ?_) (fun x hx => ?_)
    · obtain ⟨a, x, hx, e⟩ := KL_some _ _ _ _ hk
      simp only [List.mem_singleton] at hx
      subst hx
      refine ⟨a, by simpa using e, ?_⟩
      have h1 : v * D.S < n * D.S := Nat.mul_lt_mul_of_pos_right hv hS
      simp only at e
      omega
    · have := KL_mem D.S [((v, 0) : Sp)] (v, 0) (by simp)
      rw [hx]
      simpa using this

set_option maxRecDepth 100000 in
set_option maxHeartbeats 2000000 in
theorem costs_calls {w : World} {F : List Nat} {n v : Nat} {ev : Value} {E : List Ed} {nv av : Value} {D : Dm} (h : Given w F n ev E nv av D) (x : Int) (hx : x = v) (hv : v < n) :
    Calls Try.prog 23 #[.agg #[.int .i64 n, ev], .agg #[nv, av], .int .i64 x] w fun e w' => ∃ u L, e = .returned u ∧ L.length = n ∧ (∀ i r, L[i]? = some r → LeastW E D v i r) ∧ w'.ownsRow 0 3 1 u n (ints L) ∧ Mod [] w w' ∧ ∀ k, u.ownBlock = some k → w.heap.size ≤ k := by
  subst hx
  have hN := h.N
  have hn60 := h.n60
  obtain ⟨A1, c1, e1, -, -⟩ := h.e.form
  obtain ⟨A2, c2, e2, -, -⟩ := h.nx.form
  obtain ⟨A3, c3, e3, -, -⟩ := h.ac.form
  subst e1 e2 e3
  have HG := Lib.hid h
  clear h
  have hmk := fun W => run_mk appInt n (by omega) (by omega) W
  go_enter Try.func23, Try.ntmps23
  go_wp2_with fail
  have B0 := (Blk.new w #[.int .i64 n, .slice A1 E.length c1] 28).alloc (.cells #[.slice A2 D.S c2, .slice A3 D.S c3] 33)
  have M0 : Mod [] w ((w.alloc (.cells #[.int .i64 n, .slice A1 E.length c1] 28)).alloc (.cells #[.slice A2 D.S c2, .slice A3 D.S c3] 33)) := ((Mod.refl _ _).alloc _).alloc _
  generalize ((w.alloc (.cells #[.int .i64 n, .slice A1 E.length c1] 28)).alloc (.cells #[.slice A2 D.S c2, .slice A3 D.S c3] 33)) = W0 at B0 M0 ⊢
  have q0 : W0.cell? ⟨w.heap.size, 0, none⟩ = some (.int .i64 n) := B0.get rfl
  have HM0 := Lib.hid M0
  clear B0 M0
  refine (HG.out.mod0 HM0.out).join.mono ?_
  rintro e w1 ⟨g, rfl, hm1, Fg, hg, hgl⟩
  have q1 := hm1.cell q0 (by simp)
  have HM1 := Lib.hid (HM0.out.trans hm1)
  have HGR := Lib.hid hg
  have HGL := Lib.hid hgl
  clear hm1 hg hgl HM0 q0
  go_wp2_with fail
  have hB := Blk.new w1 #[.int .i64 v, .int .i64 0] 84
  have hM : Mod [] w1 (w1.alloc (.cells #[.int .i64 v, .int .i64 0] 84)) := (Mod.refl _ _).alloc _
  generalize (w1.alloc (.cells #[.int .i64 v, .int .i64 0] 84)) = W2 at hB hM ⊢
  generalize w1.heap.size = B at hB ⊢
  refine (begin_one (HGR.out.mod0 hM) (fun b hb => Nat.lt_of_lt_of_le (HGL.out b hb) hM.size) hv hB (by omega)).mono ?_
  rintro e w2 ⟨sp, cb, eb, fb, q, Fq, rfl, st, hon, -, hse, hm2, hlo⟩
  have q2 := (hM.trans hm2).cell q1 (by simp)
  have HM2 := Lib.hid ((HM1.out.trans hM).trans hm2)
  have HLO : Hid (∀ b ∈ seF sp cb eb fb Fq, w.heap.size < b) := fun b hb => by
    have h1 := World.block_lt_of_cell? _ _ q1
    have h2 := hM.size
    have h3 := hlo b hb
    simp only at h1
    omega
  have HSE := Lib.hid hse
  have HON := Lib.hid hon
  clear hB hM hm2 hse hon hlo HM1 HGR HGL q1
  go_wp2_with fail
  refine (all_calls (steps_on HG.out.l) (fun v s hs => hopsOn_ok HG.out.ok HG.out.d hs) hN HSE.out HON.out).mono ?_
  rintro e w3 ⟨rfl, Fq', st', l', T', hs3, ho3, hK3, hm3, hF3⟩
  have q3 := hm3.cell q2 (fun hb => by have := HLO.out _ hb; simp only at this; omega)
  have HM3 : Hid (Mod [] w w3) := HM2.out.then hm3 (fun b hb => Or.inr (by have := HLO.out b hb; omega))
  have HS3 := Lib.hid hs3
  have HFN := Lib.hid (ho3.fnd hN hK3)
  clear hs3 ho3 hK3 hm3 hF3 HM2 HLO HSE HON q2
  go_wp2_with fail
  have hB := zrow_at w3 n (b := w3.heap.size) rfl
  rw [← rowI_zero] at hB
  have hM : Mod [] w3 (w3.alloc (.cells (zrow #[.int .i64 0] n) 3)) := (Mod.refl _ _).alloc _
  have hws := HM3.out.size
  generalize (w3.alloc (.cells (zrow #[.int .i64 0] n) 3)) = W3 at hB hM ⊢
  have HBL : Hid (w.heap.size ≤ w3.heap.size) := hws
  have HBS : Hid (w3.heap.size ∉ seF sp cb eb fb Fq' ∧ w3.heap.size ∉ Fg) := ⟨fun hb => by have := HS3.out.lt _ hb; omega, fun hb => by have := HS3.out.gl _ hb; omega⟩
  generalize w3.heap.size = B at hB HBL HBS ⊢
  have HS4 := Lib.hid (HS3.out.mod0 hM)
  have HM4 := Lib.hid (HM3.out.trans hM)
  have HB := Lib.hid hB
  clear hB hM hws HM3 HS3 q3 hmk
  obtain ⟨wo, rfl⟩ : ∃ wo : World, wo = W3 := ⟨_, rfl⟩
  go_loopw [25] (fun u wr => ∃ (k : Nat) (f : Nat → Int), k ≤ n ∧ u = .int .i64 k ∧ Hid (Blk wr B 3 (rowI n f)) ∧ Hid (∀ i, i < k → LeastW E D v i (f i)) ∧ Hid (Mod [B] wo wr)) (fun u _ => n - (intOf u).toNat)
  case atStart => exact ⟨0, _, Nat.zero_le _, rfl, HB, fun i hi => by omega, Mod.refl _ _⟩
  case round =>
    obtain ⟨k, f, hk, rfl, HB1, HL1, HM5⟩ := hrel
    clear HB
    by_cases hlt : k < n
    · have c0 := HB1.out.get (rowI_get (c := f) hlt)
      have f0 := HB1.out.frozen k
      have z0 := HB1.out.lt
      have b1 : (0 : Int) ≤ (k : Int) := by omega
      have b2 : (k : Int) < (n : Int) := by omega
      go_wp2_with fail
      have hB2 := HB1.out.set k (.int .i64 (-1))
      rw [rowI_set] at hB2
      have hM2 := HM5.out.setCell (p := ⟨B, k, none⟩) (Or.inl (by simp)) (.int .i64 (-1))
      generalize wr.setCell ⟨B, k, none⟩ (.int .i64 (-1)) = W5 at hB2 hM2 ⊢
      have hs5 := HS4.out.mod hM2 (fun b hb e => HBS.out.1 (by simp at e; exact e ▸ hb)) (fun b hb e => HBS.out.2 (by simp at e; exact e ▸ hb))
      have HB2 := Lib.hid hB2
      have HM6 := Lib.hid hM2
      have HS5 := Lib.hid hs5
      clear hB2 hM2 hs5 c0 f0 z0 HB1 HM5
      refine (best_calls HS5.out k _ rfl hlt).mono ?_
      rintro e w6 ⟨r, rfl, hb, hm7⟩
      have HB3 := Lib.hid (hm7.keep HB2.out (by simp))
      have HM7 := Lib.hid (HM6.out.trans hm7.nil)
      have HS6 := Lib.hid (HS5.out.mod0 hm7)
      have HBB := Lib.hid hb
      rcases isBest_lt hlt (Nat.le_refl _) hb with rfl | ⟨o, rfl, ho1, ho2⟩
      · clear hb hm7
        go_wp2_with fail
        go_roundw
        case rel =>
          refine ⟨k + 1, _, by omega, by go_num, HB3, fun i hi => ?_, HM7⟩
          by_cases e : i = k
          · subst e
            have h1 := best_none HG.out.ok HG.out.d HFN.out HBB.out
            simpa [updF] using h1
          · have h1 := HL1.out i (by omega)
            simpa [updF, e] using h1
        case measure => simp [intOf]; omega
      · clear hb hm7
        have c3 : w6.cell? ⟨sp, 3, none⟩ = some (.slice (some ⟨cb, 0, none⟩) (n * D.S) (n * D.S)) := HS6.out.b.get rfl
        have cc : w6.cell? ⟨cb, o, none⟩ = some (.int .i64 (st'.c o)) := HS6.out.c.get (rowI_get ho1)
        have c0 := HB3.out.get (rowI_get (c := updF f k (-1)) hlt)
        have f0 := HB3.out.frozen k
        have z0 := HB3.out.lt
        have z1 := HS6.out.b.lt
        have z2 := HS6.out.c.lt
        have b3 : (0 : Int) ≤ (o : Int) := by omega
        have b4 : (o : Int) < ((n * D.S : Nat) : Int) := by omega
        generalize n * D.S = N at c3 b4
        go_wp2_with fail
        go_roundw
        case rel =>
          have hB4 := HB3.out.set k (.int .i64 (st'.c o))
          rw [rowI_set] at hB4
          refine ⟨k + 1, _, by omega, by go_num, hB4, fun i hi => ?_, HM7.out.setCell (p := ⟨B, k, none⟩) (Or.inl (by simp)) _⟩
          by_cases e : i = k
          · subst e
            have h1 := (best_some HG.out.ok HG.out.d HFN.out HBB.out).1
            simpa [updF] using h1
          · have h1 := HL1.out i (by omega)
            simpa [updF, e] using h1
        case measure => simp [intOf]; omega
    · obtain rfl : k = n := by omega
      go_wp2_with fail
      go_ret
      have hf : ints ((List.range k).map f) = rowI k f := by simp [ints, rowI, rowsB]
      have ho := World.ownsRow_of_blk (n := k) HB1.out (by simp [rowI, rowsB]) (by simp only [maxLen]; omega)
      refine ⟨_, (List.range k).map f, rfl, by simp, fun i r hr => ?_, by rw [hf]; exact ho, HM4.out.then HM5.out (fun b hb => Or.inr (by simp at hb; rw [hb]; exact HBL.out)), fun b hb => ?_⟩
      · have hi := (List.getElem?_eq_some_iff.1 hr).1
        simp at hi
        simp [hi] at hr
        rw [← hr]
        exact HL1.out i hi
      · simp only [Value.ownBlock] at hb
        obtain rfl : B = b := by simpa using hb
        exact HBL.out

/-- What Route tells. -/
def RouteR (w w' : World) (E : List Ed) (D : Dm) (v tt : Nat) (e : Ending) : Prop :=
  (e = .returned (.tuple #[.agg #[.int .i64 0, .slice none 0 0], .bool false]) ∧ LeastW E D v tt (-1)) ∨
  ∃ (r : Int) (u : Value) (l : List Nat) (wd : List Nat), e = .returned (.tuple #[.agg #[.int .i64 r, u], .bool true]) ∧ 0 ≤ r ∧ r ≤ 2147483647 * 1000000 ∧ LeastW E D v tt r ∧ Wlk E v l tt r wd ∧ D.ac (runD D 0 wd) = true ∧ l.length ≤ 120000 ∧
    w'.ownsRow 0 3 1 u l.length (ints (castL l)) ∧ ∀ k, u.ownBlock = some k → w.heap.size ≤ k

set_option maxRecDepth 100000 in
set_option maxHeartbeats 2000000 in
theorem route_calls {w : World} {F : List Nat} {n v tt : Nat} {ev : Value} {E : List Ed} {nv av : Value} {D : Dm} (h : Given w F n ev E nv av D) (x y : Int) (hx : x = v) (hv : v < n) (hy : y = tt) (htt : tt < n) :
    Calls Try.prog 29 #[.agg #[.int .i64 n, ev], .agg #[nv, av], .int .i64 x, .int .i64 y] w fun e w' => RouteR w w' E D v tt e ∧ Mod [] w w' := by
  subst hx
  subst hy
  have hN := h.N
  have hn60 := h.n60
  obtain ⟨A1, c1, e1, -, -⟩ := h.e.form
  obtain ⟨A2, c2, e2, -, -⟩ := h.nx.form
  obtain ⟨A3, c3, e3, -, -⟩ := h.ac.form
  subst e1 e2 e3
  have HG := Lib.hid h
  clear h
  go_enter Try.func29, Try.ntmps29
  go_wp2_with fail
  have hB0 := Blk.new' (w := (w.alloc (.cells #[.int .i64 n, .slice A1 E.length c1] 28)).alloc (.cells #[.slice A2 D.S c2, .slice A3 D.S c3] 33)) #[.int .i64 0, .slice none 0 0] 55 (k := w.heap.size + 2) (by simp)
  have M0 : Mod [] w (((w.alloc (.cells #[.int .i64 n, .slice A1 E.length c1] 28)).alloc (.cells #[.slice A2 D.S c2, .slice A3 D.S c3] 33)).alloc (.cells #[.int .i64 0, .slice none 0 0] 55)) := (((Mod.refl _ _).alloc _).alloc _).alloc _
  generalize (((w.alloc (.cells #[.int .i64 n, .slice A1 E.length c1] 28)).alloc (.cells #[.slice A2 D.S c2, .slice A3 D.S c3] 33)).alloc (.cells #[.int .i64 0, .slice none 0 0] 55)) = W0 at hB0 M0 ⊢
  have HR0 : Hid (w.heap.size ≤ w.heap.size + 2) := by show _ ≤ _; omega
  obtain ⟨R, hR⟩ : ∃ R, w.heap.size + 2 = R := ⟨_, rfl⟩
  rw [hR] at hB0 HR0
  have HRR := Lib.hid hR
  simp only [hR]
  clear hR
  have HM0 := Lib.hid M0
  have HB0 := Lib.hid hB0
  clear hB0 M0
  refine (HG.out.mod0 HM0.out).join.mono ?_
  rintro e w1 ⟨g, rfl, hm1, Fg, hg, hgl⟩
  have HB1 := Lib.hid (hm1.keep HB0.out (by simp))
  have HM1 := Lib.hid (HM0.out.trans hm1)
  have HGR := Lib.hid hg
  have HGL := Lib.hid hgl
  have HRL : Hid (R < w1.heap.size) := HB1.out.lt
  clear hm1 hg hgl HM0 HB0
  go_wp2_with fail
  have hB := Blk.new w1 #[.int .i64 v, .int .i64 0] 84
  have hM : Mod [] w1 (w1.alloc (.cells #[.int .i64 v, .int .i64 0] 84)) := (Mod.refl _ _).alloc _
  generalize (w1.alloc (.cells #[.int .i64 v, .int .i64 0] 84)) = W2 at hB hM ⊢
  generalize w1.heap.size = B at hB HRL ⊢
  refine (begin_one (HGR.out.mod0 hM) (fun b hb => Nat.lt_of_lt_of_le (HGL.out b hb) hM.size) hv hB (by omega)).mono ?_
  rintro e w2 ⟨sp, cb, eb, fb, q, Fq, rfl, st, hon, -, hse, hm2, hlo⟩
  have HB2 := Lib.hid ((hM.trans hm2).keep HB1.out (by simp))
  have HM2 := Lib.hid ((HM1.out.trans hM).trans hm2)
  have HLO : Hid (∀ b ∈ seF sp cb eb fb Fq, R < b) := fun b hb => by
    have h1 := hB.lt
    have h2 := hM.size
    have h3 := hlo b hb
    have h4 := HRL.out
    omega
  have HSE := Lib.hid hse
  have HON := Lib.hid hon
  clear hB hM hm2 hse hon hlo HM1 HGR HGL HB1 HRL
  go_wp2_with fail
  refine (all_calls (steps_on HG.out.l) (fun v s hs => hopsOn_ok HG.out.ok HG.out.d hs) hN HSE.out HON.out).mono ?_
  rintro e w3 ⟨rfl, Fq', st', l', T', hs3, ho3, hK3, hm3, hF3⟩
  have HB3 := Lib.hid (hm3.keep HB2.out (fun hb => by have := HLO.out _ hb; omega))
  have HM3 : Hid (Mod [] w w3) := HM2.out.then hm3 (fun b hb => Or.inr (by have h1 := HLO.out b hb; have h2 := HR0.out; omega))
  have HRN : Hid (R ∉ seF sp cb eb fb Fq') := fun hb => by
    have h0 := HB2.out.lt
    rcases mem_seF.1 hb with h | h | h | h | h
    · have := HLO.out sp (by simp [seF]); omega
    · have := HLO.out cb (by simp [seF]); omega
    · have := HLO.out eb (by simp [seF]); omega
    · have := HLO.out fb (by simp [seF]); omega
    · rcases hF3 R h with h1 | h1
      · have := HLO.out R (by simp [seF, h1]); omega
      · omega
  have HS3 := Lib.hid hs3
  have HFN := Lib.hid (ho3.fnd hN hK3)
  clear hs3 ho3 hK3 hm3 hF3 HM2 HLO HSE HON HB2
  go_wp2_with fail
  refine (best_calls HS3.out tt _ rfl htt).mono ?_
  rintro e w6 ⟨r, rfl, hb, hm7⟩
  have HB6 := Lib.hid (hm7.keep HB3.out (by simp))
  have HM7 := Lib.hid (HM3.out.trans hm7)
  have HS6 := Lib.hid (HS3.out.mod0 hm7)
  have HBB := Lib.hid hb
  have r0 : w6.cell? ⟨R, 0, none⟩ = some (.int .i64 0) := HB6.out.get rfl
  have r1 : w6.cell? ⟨R, 1, none⟩ = some (.slice none 0 0) := HB6.out.get rfl
  have f0 := HB6.out.frozen 0
  have f1 := HB6.out.frozen 1
  have zr := HB6.out.lt
  rcases isBest_lt htt (Nat.le_refl _) hb with rfl | ⟨o, rfl, ho1, ho2⟩
  · clear hb hm7 HM3 HS3 HB3
    go_wp2_with fail
    refine bodyPost_ret (v := .tuple #[.agg #[.int .i64 0, .slice none 0 0], .bool false]) (by simp [results, Try.results29, go_sem, r0, r1]) rfl ⟨Or.inl ⟨rfl, best_none HG.out.ok HG.out.d HFN.out HBB.out⟩, ?_⟩
    exact (HM7.out.setCell (p := ⟨R, 0, none⟩) (Or.inr HR0.out) _).setCell (p := ⟨R, 1, none⟩) (Or.inr HR0.out) _
  · clear hb hm7 HM3 HS3 HB3
    have c3 : w6.cell? ⟨sp, 3, none⟩ = some (.slice (some ⟨cb, 0, none⟩) (n * D.S) (n * D.S)) := HS6.out.b.get rfl
    have cc : w6.cell? ⟨cb, o, none⟩ = some (.int .i64 (st'.c o)) := HS6.out.c.get (rowI_get ho1)
    have z1 := HS6.out.b.lt
    have z2 := HS6.out.c.lt
    have b3 : (0 : Int) ≤ (o : Int) := by omega
    have b4 : (o : Int) < ((n * D.S : Nat) : Int) := by omega
    obtain ⟨hlw, _, L, wd, hch, hll, hwk, hac⟩ := best_some HG.out.ok HG.out.d HFN.out HBB.out
    have hed := fun W (hW : Mod [] w6 W) => edges_calls (HS6.out.mod0 hW) HFN.out.lt o o rfl ho1 L hch (by omega)
    have HED := Lib.hid hed
    have HLW := Lib.hid hlw
    have HWK := Lib.hid hwk
    clear hlw hch hwk hed
    have y1 : sp ≠ R := fun e => HRN.out (by simp [seF, ← e])
    have y2 : cb ≠ R := fun e => HRN.out (by simp [seF, ← e])
    have y3 := Ne.symm y1
    have y4 := Ne.symm y2
    obtain ⟨N, hNN⟩ : ∃ N, n * D.S = N := ⟨_, rfl⟩
    have HNN := Lib.hid hNN
    rw [hNN] at c3 b4
    clear hNN
    go_wp2_with fail
    go_region_held3 (fun w' => w'.cell? ⟨sp, 3, none⟩ = some (.slice (some ⟨cb, 0, none⟩) N N) ∧ w'.cell? ⟨cb, o, none⟩ = some (.int .i64 (st'.c o))) (go_keep)
      ((go_at_call 57; refine (HED.out _ ((Mod.refl [] w6).drew)).mono ?_; rintro e w8 ⟨u, rfl, ho8, hm8, hf8⟩; obtain ⟨Au, cu, rfl⟩ := own_any ho8; have M8 : Mod [] w6 w8 := ((Mod.refl [] w6).drew).trans hm8; have m0 := M8.cell c3 (by simp); have m1 := M8.cell cc (by simp); have m2 := M8.cell r0 (by simp); have m3 := M8.cell r1 (by simp); have n0 := frozen_mod M8 r0 (by simp) f0; have n1 := frozen_mod M8 r1 (by simp) f1; have HO8 := Lib.hid ho8; have HM8 := Lib.hid M8; have HF8 := Lib.hid hf8; clear ho8 hm8 hf8 M8))
    all_goals go_wp2_with fail
    refine bodyPost_ret (v := .tuple #[.agg #[.int .i64 (st'.c o), .slice Au L.length cu], .bool true]) (by simp [results, Try.results29, go_sem, m2, m3]) rfl ⟨Or.inr ⟨st'.c o, _, L, wd, rfl, ho2, HFN.out.bd o, HLW.out, HWK.out, hac, by omega, ?_, fun b hb => ?_⟩, ?_⟩
    · have h1 : ∀ k, (Value.slice Au L.length cu).ownBlock = some k → k ∉ [R] := fun k hk => by
        have h2 := HF8.out k hk
        simp only [drz] at h2
        simp only [List.mem_singleton]
        omega
      exact ((((Mod.refl [R] w8).setCell (p := ⟨R, 0, none⟩) (Or.inl (by simp)) _).setCell (p := ⟨R, 1, none⟩) (Or.inl (by simp)) _)).own HO8.out h1
    · have h2 := HF8.out b hb
      have h3 := HM7.out.size
      simp only [drz] at h2
      omega
    · exact ((HM7.out.trans HM8.out).setCell (p := ⟨R, 0, none⟩) (Or.inr HR0.out) _).setCell (p := ⟨R, 1, none⟩) (Or.inr HR0.out) _
end Go.Proofs.Ytekeondobdjppaa
