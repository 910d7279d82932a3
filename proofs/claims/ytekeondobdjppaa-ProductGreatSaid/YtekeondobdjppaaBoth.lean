/- From both sides: walk of Both. -/
import Derived.Test.YtekeondobdjppaaMeet
import Derived.Deep.QuietTactic
import Derived.BigQuiet
namespace Go.Proofs.Ytekeondobdjppaa
open Go.RowKit

theorem appSpot : AppT Try.prog 109 84 (.agg #[.int .i64 0, .int .i64 0]) 2 16 := AppT.mk' (by kernel_rfl) (by kernel_rfl) rfl (by decide)
/-- The spots of a vertex that accept, of the first k states. -/
def endL (D : Dm) (u k : Nat) : List Sp := ((List.range k).filter D.ac).map fun q => (u, q)
theorem endL_succ (D : Dm) (u k : Nat) : endL D u (k + 1) = if D.ac k = true then endL D u k ++ [(u, k)] else endL D u k := by
  simp only [endL, List.range_succ, List.filter_append]
  by_cases e : D.ac k = true <;> simp [e]
theorem endL_mem {D : Dm} {u k : Nat} {x : Sp} : x ∈ endL D u k ↔ ∃ q, q < k ∧ D.ac q = true ∧ x = (u, q) := by
  simp only [endL, List.mem_map, List.mem_filter, List.mem_range]
  constructor
  · rintro ⟨q, ⟨h1, h2⟩, rfl⟩; exact ⟨q, h1, h2, rfl⟩
  · rintro ⟨q, h1, h2, rfl⟩; exact ⟨q, ⟨h1, h2⟩, rfl⟩
theorem endL_len (D : Dm) (u k : Nat) : (endL D u k).length ≤ k := by
  simp only [endL, List.length_map]
  exact Nat.le_trans (List.length_filter_le _ _) (by simp)

def srcF (D : Dm) (v : Nat) : Nat → Prop := fun y => y = v * D.S
def srcB (D : Dm) (u : Nat) : Nat → Prop := fun y => ∃ q, q < D.S ∧ D.ac q = true ∧ y = u * D.S + q
/-- What the two searches, and the least that is known, come to. -/
structure Bi (n : Nat) (E : List Ed) (D : Dm) (v u k Ta Tb : Nat) (a b : St) (la lb r : Int) : Prop where
  A : On (srcF D v) (hopsOn E D) n E D Ta a la
  B : On (srcB D u) (hopsBack E D) n E D Tb b lb
  R : r = -1 ∨ ∃ x c d, Rc (srcF D v) (hopI (hopsOn E D) D.S) (wtE E) x c ∧ Rc (srcB D u) (hopI (hopsBack E D) D.S) (wtE E) x d ∧ r = c + d
  L : (0 ≤ la ∧ la ≤ 4000000000000000) ∧ 0 ≤ lb ∧ lb ≤ 4000000000000000
  M : ∀ x, 0 ≤ fnd a x → 0 ≤ fnd b x → (0 ≤ r ∧ r ≤ fnd a x + fnd b x) ∨ (k = 0 ∧ r < 0 ∧ ∀ y c, a.K y = some c → y = x)
theorem Bi.ra {n : Nat} {E : List Ed} {D : Dm} {src : Nat → Prop} {hp : Nat → Nat → List Hop} {T : Nat} {st : St} {l : Int} (h : On src hp n E D T st l) {x : Nat} (hx : 0 ≤ fnd st x) : Rc src (hopI hp D.S) (wtE E) x (fnd st x) := by
  obtain ⟨now, t, hi, _⟩ := h.inv
  exact fnd_rc hi hx
theorem on_fnd_le {n : Nat} {E : List Ed} {D : Dm} {src : Nat → Prop} {hp : Nat → Nat → List Hop} {T : Nat} {st : St} {l : Int} (h : On src hp n E D T st l) (hN : n * D.S ≤ 120000) (x : Nat) : fnd st x ≤ 4000000000000000 ∧ (0 ≤ fnd st x → x < n * D.S) := by
  obtain ⟨now, t, hi, hb⟩ := h.inv
  have hle := hb.le
  by_cases hc : 0 ≤ st.c x
  · rw [fnd_c hc]
    have h1 := hb.c x hc
    have h2 := (hi.c x hc).2.2.1
    exact ⟨by omega, fun _ => h1.1⟩
  · cases hk : st.K x with
    | none =>
      have : fnd st x = -1 := by simp only [fnd, hk]; rw [if_neg hc]
      rw [this]
      exact ⟨by omega, fun h => by omega⟩
    | some k =>
      rw [fnd_K (by omega) hk]
      have h1 := hb.k x k hk
      exact ⟨by omega, fun _ => h1.1⟩
theorem meets_r {n : Nat} {E : List Ed} {D : Dm} {v u Ta Tb : Nat} {a b : St} {la lb r : Int} (ha : On (srcF D v) (hopsOn E D) n E D Ta a la) (hb : On (srcB D u) (hopsBack E D) n E D Tb b lb) (l : List Nat)
    (hr : r = -1 ∨ ∃ x c d, Rc (srcF D v) (hopI (hopsOn E D) D.S) (wtE E) x c ∧ Rc (srcB D u) (hopI (hopsBack E D) D.S) (wtE E) x d ∧ r = c + d) :
    meets (fnd a) (fnd b) l r = -1 ∨ ∃ x c d, Rc (srcF D v) (hopI (hopsOn E D) D.S) (wtE E) x c ∧ Rc (srcB D u) (hopI (hopsBack E D) D.S) (wtE E) x d ∧ meets (fnd a) (fnd b) l r = c + d := by
  rcases meets_of (F := fnd a) (B := fnd b) l r with h | ⟨x, h1, h2, h3⟩
  · rw [h]; exact hr
  · exact Or.inr ⟨x, _, _, Bi.ra ha h1, Bi.ra hb h2, h3⟩
/-- The least is not above what either list met, nor what it was. -/
theorem meets_bound {F B : Nat → Int} {l : List Nat} {r : Int} {x : Nat} (hF : 0 ≤ F x) (hB : 0 ≤ B x) (h : x ∈ l ∨ (0 ≤ r ∧ r ≤ F x + B x)) : 0 ≤ meets F B l r ∧ meets F B l r ≤ F x + B x := by
  rcases h with h | h
  · exact meets_mem l r x h hF hB
  · have := meets_le (F := F) (B := B) l h.1
    omega
theorem key_bound {n : Nat} {E : List Ed} {D : Dm} {src : Nat → Prop} {hp : Nat → Nat → List Hop} {T : Nat} {st : St} {l : Int} (h : On src hp n E D T st l) (hN : n * D.S ≤ 120000) {id : Nat} {key : Int} (hk : st.K id = some key) : 0 ≤ key ∧ key ≤ 4000000000000000 := by
  obtain ⟨now, t, hi, hb⟩ := h.inv
  have h1 := (hi.k id key hk).2.1.nonneg
  have h2 := (hb.k id key hk).2
  have h3 := hb.le
  omega
/-- A step there, then all is met anew. -/
theorem Bi.stepA {n : Nat} {E : List Ed} {D : Dm} {v u Ta Tb : Nat} {a b : St} {la lb r : Int} (h : Bi n E D v u 0 Ta Tb a b la lb r) (hD : DmOk D) (hE : EdOk n E) (hN : n * D.S ≤ 120000) {id : Nat} {key : Int} (hk : a.K id = some key) (hmin : ∀ id' k', a.K id' = some k' → key < k' ∨ (key = k' ∧ id ≤ id')) {l : List Hop} (hl : hopsOn E D (id / D.S) (id % D.S) = l) :
    Bi n E D v u 1 (Ta + 1) Tb (stepSt E D.S id key l a) b key lb (meets (fnd (stepSt E D.S id key l a)) (fnd b) (id :: l.map fun h => (hopId D.S h).1) r) := by
  have hon := h.A.step hD hE (fun v s hs => hopsOn_ok hE hD hs) hk hmin
  rw [hl] at hon
  refine ⟨hon, h.B, meets_r hon h.B _ h.R, ⟨key_bound h.A hN hk, h.L.2⟩, fun x hx hy => Or.inl (meets_bound hx hy ?_)⟩
  by_cases hm : x ∈ (id :: l.map fun h => (hopId D.S h).1)
  · exact Or.inl hm
  · right
    obtain ⟨now, t, hi, hb⟩ := h.A.inv
    have h0 := (hi.k id key hk).2.1.nonneg
    have hc : a.c id < 0 := by
      rcases Int.lt_or_le (a.c id) 0 with h1 | h1
      · exact h1
      · have := (hi.c id h1).2.2.2.1
        rw [hk] at this; cases this
    have e := fnd_step E D.S id key a hc hk h0 l x (fun h => hm (List.mem_cons_of_mem _ h))
    rw [e] at hx ⊢
    rcases h.M x hx hy with h1 | ⟨_, _, h1⟩
    · exact h1
    · exact absurd (h1 id key hk) (fun e => hm (by simp [e]))
/-- A step back, then all is met anew. -/
theorem Bi.stepB {n : Nat} {E : List Ed} {D : Dm} {v u Ta Tb : Nat} {a b : St} {la lb r : Int} (h : Bi n E D v u 1 Ta Tb a b la lb r) (hD : DmOk D) (hE : EdOk n E) (hN : n * D.S ≤ 120000) {id : Nat} {key : Int} (hk : b.K id = some key) (hmin : ∀ id' k', b.K id' = some k' → key < k' ∨ (key = k' ∧ id ≤ id')) {l : List Hop} (hl : hopsBack E D (id / D.S) (id % D.S) = l) :
    Bi n E D v u 0 Ta (Tb + 1) a (stepSt E D.S id key l b) la key (meets (fnd a) (fnd (stepSt E D.S id key l b)) (id :: l.map fun h => (hopId D.S h).1) r) := by
  have hon := h.B.step hD hE (fun v s hs => hopsBack_ok hE hD hs) hk hmin
  rw [hl] at hon
  refine ⟨h.A, hon, meets_r h.A hon _ h.R, ⟨h.L.1, key_bound h.B hN hk⟩, fun x hx hy => Or.inl (meets_bound hx hy ?_)⟩
  by_cases hm : x ∈ (id :: l.map fun h => (hopId D.S h).1)
  · exact Or.inl hm
  · right
    obtain ⟨now, t, hi, hb⟩ := h.B.inv
    have h0 := (hi.k id key hk).2.1.nonneg
    have hc : b.c id < 0 := by
      rcases Int.lt_or_le (b.c id) 0 with h1 | h1
      · exact h1
      · have := (hi.c id h1).2.2.2.1
        rw [hk] at this; cases this
    have e := fnd_step E D.S id key b hc hk h0 l x (fun h => hm (List.mem_cons_of_mem _ h))
    rw [e] at hy ⊢
    rcases h.M x hx hy with h1 | ⟨h2, _⟩
    · exact h1
    · omega
/-- In the end: by the bound. -/
theorem Bi.stop {n : Nat} {E : List Ed} {D : Dm} {v u k Ta Tb : Nat} {a b : St} {la lb r : Int} (h : Bi n E D v u k Ta Tb a b la lb r) (hD : DmOk D) (hE : EdOk n E) (h0 : 0 ≤ r) (hl : r ≤ la + lb) : LeastW E D v u r := by
  obtain ⟨nf, tf, hi, _⟩ := h.A.inv
  obtain ⟨nb, tb, hj, _⟩ := h.B.inv
  refine both_law (sb := srcB D u) hE hD (fun y => Iff.rfl) h.R (fun y d hy hs => ⟨h0, ?_⟩)
  refine both_least (hop_fb hE hD) hi hj (fun x hx hy => ?_) hl hy hs
  rcases h.M x hx hy with h1 | ⟨_, h1, _⟩
  · exact h1
  · omega
/-- In the end: nothing waits. -/
theorem bi_all {n : Nat} {E : List Ed} {D : Dm} {v u Ta Tb : Nat} {a b : St} {la lb r : Int} (ha : On (srcF D v) (hopsOn E D) n E D Ta a la) (hb : On (srcB D u) (hopsBack E D) n E D Tb b lb) (hD : DmOk D) (hE : EdOk n E) (hN : n * D.S ≤ 120000) (hKa : ∀ id, a.K id = none) (hKb : ∀ id, b.K id = none)
    (hr : r = -1 ∨ ∃ x c d, Rc (srcF D v) (hopI (hopsOn E D) D.S) (wtE E) x c ∧ Rc (srcB D u) (hopI (hopsBack E D) D.S) (wtE E) x d ∧ r = c + d) :
    LeastW E D v u (meets (fnd a) (fnd b) (List.range (n * D.S)) r) := by
  refine both_law (sb := srcB D u) hE hD (fun y => Iff.rfl) (meets_r ha hb _ hr) (fun y d hy hs => ?_)
  have h1 := (ha.fnd hN hKa).le y d hy
  have h2 := (hb.fnd hN hKb).le y 0 (.src y hs)
  have h3 := fnd_c h1.1
  have h4 := fnd_c h2.1
  have h5 := meets_mem (F := fnd a) (B := fnd b) (List.range (n * D.S)) r y (List.mem_range.2 ((ha.fnd hN hKa).lt y h1.1)) (by omega) (by omega)
  omega

set_option maxRecDepth 100000 in
set_option maxHeartbeats 4000000 in
theorem both_calls {w : World} {F : List Nat} {n v u : Nat} {ev : Value} {E : List Ed} {nv av : Value} {D : Dm} (h : Given w F n ev E nv av D) (x y : Int) (hx : x = v) (hv : v < n) (hy : y = u) (hu : u < n) :
    Calls Try.prog 30 #[.agg #[.int .i64 n, ev], .agg #[nv, av], .int .i64 x, .int .i64 y] w fun e w' => ∃ r, e = .returned (.tuple #[.int .i64 (if 0 ≤ r then r else 0), .bool (decide (0 ≤ r))]) ∧ LeastW E D v u r ∧ Mod [] w w' := by
  subst hx
  subst hy
  have hN := h.N
  have hn60 := h.n60
  obtain ⟨A1, c1, e1, -, -⟩ := h.e.form
  obtain ⟨A2, c2, e2, -, -⟩ := h.nx.form
  obtain ⟨A3, c3, e3, -, -⟩ := h.ac.form
  subst e1 e2 e3
  have HG := Lib.hid h
  clear h
  go_enter Try.func30, Try.ntmps30
  go_wp2_with fail
  have hB0 := Blk.new' (w := w.alloc (.cells #[.int .i64 n, .slice A1 E.length c1] 28)) #[.slice A2 D.S c2, .slice A3 D.S c3] 33 (k := w.heap.size + 1) (by simp)
  have M0 : Mod [] w ((w.alloc (.cells #[.int .i64 n, .slice A1 E.length c1] 28)).alloc (.cells #[.slice A2 D.S c2, .slice A3 D.S c3] 33)) := ((Mod.refl _ _).alloc _).alloc _
  generalize ((w.alloc (.cells #[.int .i64 n, .slice A1 E.length c1] 28)).alloc (.cells #[.slice A2 D.S c2, .slice A3 D.S c3] 33)) = W0 at hB0 M0 ⊢
  have q0 : W0.cell? ⟨w.heap.size + 1, 1, none⟩ = some (.slice A3 D.S c3) := hB0.get rfl
  have HM0 := Lib.hid M0
  clear hB0 M0
  refine (HG.out.mod0 HM0.out).join.mono ?_
  rintro e w1 ⟨g, rfl, hm1, Fg, hg, hgl⟩
  have q1 := hm1.cell q0 (by simp)
  have HM1 := Lib.hid (HM0.out.trans hm1)
  have HGR := Lib.hid hg
  have HGL := Lib.hid hgl
  clear hm1 hg hgl HM0 q0
  go_wp2_with fail
  have hB := Blk.new w1 #[.int .i64 v, .int .i64 0] 84
  have hM : Mod [] w1 (w1.alloc (.cells #[.int .i64 v, .int .i64 0] 84)) := (Mod.refl _ _).alloc _
  generalize (w1.alloc (.cells #[.int .i64 v, .int .i64 0] 84)) = W2 at hB hM ⊢
  generalize w1.heap.size = B at hB ⊢
  refine (begin_one (HGR.out.mod0 hM) (fun b hb => Nat.lt_of_lt_of_le (HGL.out b hb) hM.size) hv hB (by omega)).mono ?_
  rintro e w2 ⟨s1, cb1, eb1, fb1, qq1, Q1, rfl, a, hon, hac, hse, hm2, hlo⟩
  have q2 := (hM.trans hm2).cell q1 (by simp)
  have HM2 := Lib.hid ((HM1.out.trans hM).trans hm2)
  have HLO : Hid (∀ b ∈ seF s1 cb1 eb1 fb1 Q1, w.heap.size ≤ b) := fun b hb => by
    have h1 := HM1.out.size
    have h2 := hM.size
    have h3 := hlo b hb
    omega
  have HSE := Lib.hid hse
  have HON := Lib.hid hon
  have HAC := Lib.hid hac
  have zq : w.heap.size + 1 < w2.heap.size := World.block_lt_of_cell? w2 _ q2
  clear hB hM hm2 hse hon hac hlo HM1 HGR HGL q1
  go_wp2_with fail
  have hk1 := Blk.new w2 #[.pointer (some ⟨s1, 0, none⟩)] 77
  have hM : Mod [] w2 (w2.alloc (.cells #[.pointer (some ⟨s1, 0, none⟩)] 77)) := (Mod.refl _ _).alloc _
  generalize (w2.alloc (.cells #[.pointer (some ⟨s1, 0, none⟩)] 77)) = W3 at hk1 hM ⊢
  have HK1L : Hid (w.heap.size ≤ w2.heap.size ∧ w2.heap.size ∉ seF s1 cb1 eb1 fb1 Q1) := ⟨HM2.out.size, fun hb => by have := HSE.out.lt _ hb; omega⟩
  generalize w2.heap.size = k1 at hk1 HK1L ⊢
  have HM3 := Lib.hid (HM2.out.trans hM)
  have HS3 := Lib.hid (HSE.out.mod0 hM)
  have HK1 := Lib.hid hk1
  clear hk1 hM HM2 HSE zq q2
  obtain ⟨wo, rfl⟩ : ∃ wo : World, wo = W3 := ⟨_, rfl⟩
  go_loopw [36, 12] (fun i o wr => ∃ (k : Nat), k ≤ D.S ∧ i = .int .i64 k ∧ Hid (wr.ownsRow 0 84 2 o (endL D u k).length (spCells (endL D u k))) ∧ Hid (Mod [] wo wr) ∧ Hid (∀ b, o.ownBlock = some b → wo.heap.size ≤ b)) (fun i _ _ => D.S - (intOf i).toNat)
  case atStart => exact ⟨0, Nat.zero_le _, rfl, World.ownsRow_nil _ _ _ _, Mod.refl _ _, fun k hk => by simp [Value.ownBlock] at hk⟩
  case round =>
    obtain ⟨k, hk, rfl, HO, HM4, HO2⟩ := hrel
    by_cases hlt : k < D.S
    · rcases HG.out.ac with ⟨_, h0, _⟩ | ⟨hb, ho, c', hv1, _, _, _, hbl, hcell⟩
      · omega
      injection hv1 with hv1 hv2 hv3
      subst hv1
      have t0 := (HM3.out.trans HM4.out).cell (hcell k _ (acCells_get D hlt)) (by simp)
      have b3 : (0 : Int) ≤ (k : Int) := by omega
      have b4 : (k : Int) < (D.S : Int) := by omega
      have hel := endL_len D u k
      have hS2 := HG.out.d.2.1
      clear hcell hv2 hv3
      have hes := endL_succ D u k
      cases hac : D.ac k with
      | false =>
        rw [hac] at t0 hes
        rw [if_neg (by simp)] at hes
        have HES := Lib.hid hes
        clear hes hac
        go_wp2_with fail
        go_roundw
        case rel => exact ⟨k + 1, by omega, by go_num, by rw [HES.out]; exact HO, HM4, HO2⟩
        case measure => simp [intOf]; omega
      | true =>
        rw [hac] at t0 hes
        rw [if_pos rfl] at hes
        have HES := Lib.hid hes
        clear hes hac
        go_wp2_with ((at_builtin; refine list_app rfl (.tmp 42) (.tmp 46) 109 rfl appSpot u12 (endL D u k).length (spCells (endL D u k)) rfl (own_alloc HO.out _) wr.heap.size 84 1 [.int .i64 u, .int .i64 k] rfl rfl (Blk.new wr #[.int .i64 u, .int .i64 k] 84) (by simp [Value.oneCell']) (by omega) (by omega) ?_; intro gg d1 w4 ho4 hg4 hat4 hlt4; have M4 : Mod u12.ownBlock.toList wr w4 := ((Mod.refl _ wr).alloc _).grown hg4 (fun k hk => Or.inl (toList_own.2 hk)); have HO4 := Lib.hid ho4; have HM5 := Lib.hid M4; have HT := Lib.hid hat4; clear ho4 hg4 hat4 M4))
        go_roundw
        case rel =>
          have hWs := HM4.out.size
          refine ⟨k + 1, by omega, by go_num, ?_, HM4.out.then HM5.out (fun b hb => Or.inr (HO2.out b (toList_own.1 hb))), fun b hb => ?_⟩
          · have e2 : spCells (endL D u k ++ [(u, k)]) = spCells (endL D u k) ++ [Value.int .i64 u, Value.int .i64 k] := by rw [spCells_append]; rfl
            show World.ownsRow _ _ _ _ _ _ _
            rw [HES.out, e2, List.length_append, List.length_singleton]
            exact HO4.out
          · simp only [Value.ownBlock] at hb
            obtain rfl : gg = b := by simpa using hb
            rcases HT.out with h1 | h1
            · exact HO2.out _ h1
            · simp at h1; omega
        case measure => simp [intOf]; omega
    · obtain rfl : k = D.S := by omega
      go_wp2_with fail
      have hS4 := HS3.out.mod0 HM4.out
      refine (begin_calls (fk := 58) hS4.g hS4.gl (Sl.of_own HO.out) (fun x hx => ?_)).mono ?_
      · obtain ⟨q, hq1, hq2, rfl⟩ := endL_mem.1 hx
        exact ⟨hu, hq1⟩
      rintro e w5 ⟨s2, cb2, eb2, fb2, qq2, Q2, rfl, hs2, hm5, hlo2⟩
      have honb : On (srcB D u) (hopsBack E D) n E D 0 ⟨fun _ => -1, fun _ => -1, fun _ => -1, KL D.S (endL D u D.S)⟩ 0 := by
        refine On.zero (fun id k hk => ?_) (fun x hx => ?_)
        · obtain ⟨a1, x, hx, e⟩ := KL_some _ _ _ _ hk
          obtain ⟨q, hq1, hq2, rfl⟩ := endL_mem.1 hx
          refine ⟨a1, ⟨q, hq1, hq2, e⟩, ?_⟩
          have h1 : (u + 1) * D.S ≤ n * D.S := Nat.mul_le_mul_right _ hu
          rw [Nat.add_mul] at h1
          simp only at e
          omega
        · obtain ⟨q, hq1, hq2, rfl⟩ := hx
          exact KL_mem D.S _ (u, q) (endL_mem.2 ⟨q, hq1, hq2, rfl⟩)
      generalize (⟨fun _ => -1, fun _ => -1, fun _ => -1, KL D.S (endL D u D.S)⟩ : St) = b at hs2 honb
      have HS5 := Lib.hid (hS4.mod0 hm5)
      have HT5 := Lib.hid hs2
      have HONB := Lib.hid honb
      have HM5 := Lib.hid ((HM3.out.trans HM4.out).trans hm5)
      have HK5 := Lib.hid ((HM4.out.trans hm5).keep HK1.out (by simp))
      have HAB : Hid (∀ x ∈ seF s1 cb1 eb1 fb1 Q1, x ∉ seF s2 cb2 eb2 fb2 Q2) := fun x hx h2 => by
        have h3 := hlo2 x h2
        have h4 := hS4.lt x hx
        omega
      have HLO2 : Hid (∀ b ∈ seF s2 cb2 eb2 fb2 Q2, w.heap.size ≤ b ∧ k1 < b) := fun b hb => by
        have h1 := (HM3.out.trans HM4.out).size
        have h2 := hlo2 b hb
        have h3 := (HM4.out.keep HK1.out (by simp)).lt
        omega
      clear hS4 hs2 hm5 hlo2 honb HM4 HO HO2 HM3 HS3 HK1
      have ck1 : w5.cell? ⟨k1, 0, none⟩ = some (.pointer (some ⟨s1, 0, none⟩)) := HK5.out.get rfl
      have zk1 : k1 < w5.heap.size := HK5.out.lt
      go_wp2_with fail
      have hk2 := ((Blk.new w5 #[.pointer (some ⟨s2, 0, none⟩)] 77).alloc (.cells #[.int .i64 (-1)] 3)).alloc (.cells #[.pointer (some ⟨s1, 0, none⟩), .pointer (some ⟨s2, 0, none⟩)] 111)
      have hk3 := (Blk.new' (w := w5.alloc (.cells #[.pointer (some ⟨s2, 0, none⟩)] 77)) #[.int .i64 (-1)] 3 (k := w5.heap.size + 1) (by simp)).alloc (.cells #[.pointer (some ⟨s1, 0, none⟩), .pointer (some ⟨s2, 0, none⟩)] 111)
      have hk4 := Blk.new' (w := (w5.alloc (.cells #[.pointer (some ⟨s2, 0, none⟩)] 77)).alloc (.cells #[.int .i64 (-1)] 3)) #[.pointer (some ⟨s1, 0, none⟩), .pointer (some ⟨s2, 0, none⟩)] 111 (k := w5.heap.size + 1 + 1) (by simp)
      have hM : Mod [] w5 (((w5.alloc (.cells #[.pointer (some ⟨s2, 0, none⟩)] 77)).alloc (.cells #[.int .i64 (-1)] 3)).alloc (.cells #[.pointer (some ⟨s1, 0, none⟩), .pointer (some ⟨s2, 0, none⟩)] 111)) := (((Mod.refl _ _).alloc _).alloc _).alloc _
      generalize (((w5.alloc (.cells #[.pointer (some ⟨s2, 0, none⟩)] 77)).alloc (.cells #[.int .i64 (-1)] 3)).alloc (.cells #[.pointer (some ⟨s1, 0, none⟩), .pointer (some ⟨s2, 0, none⟩)] 111)) = W6 at hk2 hk3 hk4 hM ⊢
      obtain ⟨k2, hk2e⟩ : ∃ k2, w5.heap.size = k2 := ⟨_, rfl⟩
      obtain ⟨k3, hk3e⟩ : ∃ k3, w5.heap.size + 1 = k3 := ⟨_, rfl⟩
      obtain ⟨k4, hk4e⟩ : ∃ k4, w5.heap.size + 1 + 1 = k4 := ⟨_, rfl⟩
      rw [hk2e] at hk2
      rw [hk3e] at hk3
      rw [hk4e] at hk4
      have hbw : Bw W6 k1 k2 k3 k4 s1 cb1 eb1 fb1 qq1 s2 cb2 eb2 fb2 qq2 Q1 Q2 Fg g n E D a b 0 0 (-1) := by
        refine ⟨HS5.out.mod0 hM, HT5.out.mod0 hM, hM.keep HK5.out (by simp), hk2, hk3, hk4, HAB.out, fun x hx => ?_, fun x hx => ?_, fun hx => ?_⟩
        · have h1 := HS5.out.lt x hx
          have h2 : x ≠ k1 := fun e => HK1L.out.2 (e ▸ hx)
          omega
        · have h1 := HT5.out.lt x hx
          have h2 := (HLO2.out x hx).2
          omega
        · have := HS5.out.gl _ hx; omega
      have HBW := Lib.hid hbw
      have HM6 := Lib.hid (HM5.out.trans hM)
      have HLO3 : Hid (w.heap.size ≤ k3) := by have := HM5.out.size; show _ ≤ _; omega
      rw [hk4e, hk3e, hk2e]
      have hbi : Bi n E D v u 0 0 0 a b 0 0 (-1) := by
        refine ⟨HON.out, HONB.out, Or.inl rfl, by omega, fun x hx hy => Or.inr ⟨rfl, by omega, fun y c hc => ?_⟩⟩
        obtain ⟨now, t, hi, hb⟩ := HON.out.inv
        have hx2 : a.K x ≠ none := fun h => by
          simp only [fnd, h] at hx
          rw [if_neg (by rw [HAC.out]; omega)] at hx
          omega
        have key : ∀ z c, a.K z = some c → z = v * D.S := fun z c hz => by
          rcases (hi.k z c hz).2.2 with ⟨_, h2, _⟩ | ⟨x', k, h1, h2, h3, _⟩
          · exact h2
          · rw [HAC.out] at h3; omega
        cases hk : a.K x with
        | none => exact absurd hk hx2
        | some c' => rw [key y c hc, key x c' hk]
      have HBI := Lib.hid hbi
      clear hbi hbw hk2 hk3 hk4 hM hk2e hk3e hk4e HS5 HT5 HONB HON HAC HK5 HM5 HAB HK1L ck1 zk1
      obtain ⟨w6, rfl⟩ : ∃ w6 : World, w6 = W6 := ⟨_, rfl⟩
      go_loopg [19] (2 * (n * D.S)) (fun gh i wr => ∃ (k Ta Tb : Nat) (Q1' Q2' : List Nat) (a' b' : St) (la lb r : Int), (k = 0 ∨ k = 1) ∧ i = .int .i64 k ∧ gh = 2 * (n * D.S) - (Ta + Tb) ∧ Hid (Bw wr k1 k2 k3 k4 s1 cb1 eb1 fb1 qq1 s2 cb2 eb2 fb2 qq2 Q1' Q2' Fg g n E D a' b' la lb r) ∧ Hid (Bi n E D v u k Ta Tb a' b' la lb r) ∧ Hid (Mod [] w wr) ∧ Hid ((∀ x ∈ seF s1 cb1 eb1 fb1 Q1', w.heap.size ≤ x) ∧ (∀ x ∈ seF s2 cb2 eb2 fb2 Q2', w.heap.size ≤ x)))
      case atStart => exact ⟨0, 0, 0, Q1, Q2, a, b, 0, 0, -1, Or.inl rfl, rfl, rfl, HBW, HBI, HM6, HLO.out, fun x hx => (HLO2.out x hx).1⟩
      case round =>
        obtain ⟨k, Ta, Tb, Q1', Q2', a', b', la, lb, r, hk01, rfl, rfl, HB1, HI1, HM7, HL7⟩ := hrel
        clear HBW HBI HM6
        have d3 : wr.cell? ⟨k3, 0, none⟩ = some (.int .i64 r) := HB1.out.m3.get rfl
        have d1 : wr.cell? ⟨k1, 0, none⟩ = some (.pointer (some ⟨s1, 0, none⟩)) := HB1.out.m1.get rfl
        have d2 : wr.cell? ⟨k2, 0, none⟩ = some (.pointer (some ⟨s2, 0, none⟩)) := HB1.out.m2.get rfl
        have d4 : wr.cell? ⟨s1, 6, none⟩ = some (.int .i64 la) := HB1.out.A.b.get rfl
        have d5 : wr.cell? ⟨s2, 6, none⟩ = some (.int .i64 lb) := HB1.out.B.b.get rfl
        have y1 := HB1.out.m1.lt
        have y2 := HB1.out.m2.lt
        have y3 := HB1.out.m3.lt
        have y4 := HB1.out.A.b.lt
        have y5 := HB1.out.B.b.lt
        obtain ⟨⟨l1, l2⟩, l3, l4⟩ := HI1.out.L
        by_cases hgo : 0 ≤ r ∧ r ≤ la + lb
        · obtain ⟨h0, h1⟩ := hgo
          have f1 : decide (r < 0) = false := by simpa using h0
          have f2 : decide (la + lb < r) = false := by simpa using h1
          have HLW := Lib.hid (HI1.out.stop HG.out.d HG.out.ok h0 h1)
          go_wp2_with fail
          go_quiet (fail)
          go_wp2_with fail
          go_quiet (fail)
          go_wp2_with fail
          go_ret2
          exact ⟨r, by simp [h0], HLW.out, (HM7.out.drewN _).drewN _⟩
        · go_wp2_with fail
          go_cut [70] (fun bo wx => bo = .bool true ∧ Hid (Bw wx k1 k2 k3 k4 s1 cb1 eb1 fb1 qq1 s2 cb2 eb2 fb2 qq2 Q1' Q2' Fg g n E D a' b' la lb r) ∧ Hid (Mod [] w wx))
          case first =>
            by_cases h0 : r < 0
            · go_quiet (fail)
              go_wp2_with fail
              go_meet
              exact ⟨rfl, HB1.out.mod0 ((Mod.refl [] wr).drewN _), HM7.out.drewN _⟩
            · have f1 : decide (r < 0) = false := by simpa using h0
              have f2 : la + lb < r := by omega
              go_quiet (fail)
              go_wp2_with fail
              go_meet
              exact ⟨rfl, HB1.out.mod0 ((Mod.refl [] wr).drewN _), HM7.out.drewN _⟩
          case rest =>
            obtain ⟨rfl, HB2, HM9⟩ := hcut
            clear HB1 HM7 d1 d2 d3 d4 d5 y1 y2 y3 y4 y5 hgo
            rcases hk01 with rfl | rfl
            · have e4 : wc.cell? ⟨k4, 0, none⟩ = some (.pointer (some ⟨s1, 0, none⟩)) := HB2.out.m4.get rfl
              have y6 := HB2.out.m4.lt
              go_wp2_with fail
              refine (steps_on HG.out.l wc s1 cb1 eb1 fb1 qq1 Q1' a' la HB2.out.A (HI1.out.A.K hN)).mono ?_
              rintro e w7 (⟨rfl, hnk, rfl⟩ | ⟨id, key, rfl, hid, hk, hmin, Qn, hs7, hm7, hF7⟩)
              · have HNK := Lib.hid hnk
                clear hnk e4
                have e5 : wc.cell? ⟨k4, 1, none⟩ = some (.pointer (some ⟨s2, 0, none⟩)) := HB2.out.m4.get rfl
                go_wp2_with fail
                refine (all_calls (steps_back HG.out.l) (fun v s hs => hopsBack_ok HG.out.ok HG.out.d hs) hN HB2.out.B HI1.out.B).mono ?_
                rintro e w8 ⟨rfl, Qm, st8, l8, T8, hs8, ho8, hK8, hm8, hF8⟩
                have HB8 := Lib.hid (HB2.out.two hs8 hm8 hF8)
                have HM8 : Hid (Mod [] w w8) := HM9.out.then hm8 (fun b hb => Or.inr (HL7.out.2 b hb))
                have HO8 := Lib.hid ho8
                have HK8 := Lib.hid hK8
                have g1 : w8.cell? ⟨k1, 0, none⟩ = some (.pointer (some ⟨s1, 0, none⟩)) := HB8.out.m1.get rfl
                have g2 : w8.cell? ⟨s1, 3, none⟩ = some (.slice (some ⟨cb1, 0, none⟩) (n * D.S) (n * D.S)) := HB8.out.A.b.get rfl
                have g3 := HB8.out.m1.lt
                have g4 := HB8.out.A.b.lt
                clear hs8 ho8 hK8 hm8 hF8 e5 HB2 HM9
                obtain ⟨N, hNN⟩ : ∃ N, n * D.S = N := ⟨_, rfl⟩
                rw [hNN] at g2
                have hN12 : N ≤ 120000 := hNN ▸ hN
                have HNN := Lib.hid hNN
                clear hNN
                go_wp2_with fail
                obtain ⟨wz, rfl⟩ : ∃ wz : World, wz = w8 := ⟨_, rfl⟩
                go_loopw [92] (fun i wr => ∃ jj : Nat, jj ≤ N ∧ i = .int .i64 jj ∧ Hid (Bw wr k1 k2 k3 k4 s1 cb1 eb1 fb1 qq1 s2 cb2 eb2 fb2 qq2 Q1' Qm Fg g n E D a' st8 la l8 (meets (fnd a') (fnd st8) (List.range jj) r)) ∧ Hid (Mod [] w wr)) (fun i _ => N - (intOf i).toNat)
                case atStart => exact ⟨0, Nat.zero_le _, rfl, HB8, HM8⟩
                case round =>
                  obtain ⟨jj, hj, rfl, HBJ, HMJ⟩ := hrel
                  clear HB8 HM8
                  by_cases hlt2 : jj < N
                  · have b1 : (0 : Int) ≤ (jj : Int) := by omega
                    go_wp2_with fail
                    refine (HBJ.out.meet jj _ rfl (HNN.out ▸ hlt2) (on_fnd_le HI1.out.A hN jj).1 (on_fnd_le HO8.out hN jj).1).mono ?_
                    rintro e w9 ⟨rfl, hb9, hm9⟩
                    have HB9 := Lib.hid hb9
                    have HM10 : Hid (Mod [] w w9) := HMJ.out.then hm9 (fun b hb => Or.inr (by simp only [List.mem_singleton] at hb; rw [hb]; exact HLO3.out))
                    clear hb9 hm9
                    go_wp2_with fail
                    go_roundw
                    case rel =>
                      refine ⟨jj + 1, by omega, by go_num, ?_, HM10⟩
                      show Bw _ _ _ _ _ _ _ _ _ _ _ _ _ _ _ _ _ _ _ _ _ _ _ _ _ _ _
                      rw [List.range_succ, meets_snoc]
                      exact HB9.out
                    case measure => simp [intOf]; omega
                  · obtain rfl : jj = N := by omega
                    have HLW : Hid (LeastW E D v u (meets (fnd a') (fnd st8) (List.range jj) r)) := by
                      have := bi_all HI1.out.A HO8.out HG.out.d HG.out.ok hN HNK.out HK8.out HI1.out.R
                      rw [HNN.out] at this
                      exact this
                    have c3' := HBJ.out.m3.get (i := 0) rfl
                    have y7 := HBJ.out.m3.lt
                    generalize meets (fnd a') (fnd st8) (List.range jj) r = r' at HLW c3' HBJ
                    clear HBJ
                    go_wp2_with fail
                    by_cases hr0 : 0 ≤ r'
                    · go_quiet (fail)
                      go_wp2_with fail
                      go_ret2
                      exact ⟨r', by simp [hr0], HLW.out, HMJ.out.drewN _⟩
                    · have hr1 : decide (0 ≤ r') = false := by simpa using hr0
                      go_quiet (fail)
                      go_wp2_with fail
                      go_ret2
                      exact ⟨r', by simp [hr0] <;> omega, HLW.out, HMJ.out.drewN _⟩
              · have hbi := HI1.out.stepA HG.out.d HG.out.ok hN hk hmin rfl
                have hbw := HB2.out.one hs7 hm7 hF7
                obtain ⟨L, hL⟩ : ∃ L, hopsOn E D (id / D.S) (id % D.S) = L := ⟨_, rfl⟩
                rw [hL] at hbi hbw
                generalize stepSt E D.S id key L a' = st7 at hbi hbw
                have HI7 := Lib.hid hbi
                have HB7 := Lib.hid hbw
                have HLL := Lib.hid hL
                have HM10 : Hid (Mod [] w w7) := HM9.out.then hm7 (fun b hb => Or.inr (HL7.out.1 b hb))
                have HL10 : Hid ((∀ x ∈ seF s1 cb1 eb1 fb1 Qn, w.heap.size ≤ x) ∧ (∀ x ∈ seF s2 cb2 eb2 fb2 Q2', w.heap.size ≤ x)) := by
                  have hsz := HM9.out.size
                  have hnew : ∀ x ∈ seF s1 cb1 eb1 fb1 Qn, w.heap.size ≤ x := fun x hx => by
                    rcases seF_new hF7 x hx with h1 | h1
                    · exact HL7.out.1 x h1
                    · omega
                  exact ⟨hnew, HL7.out.2⟩
                clear hbi hbw hL hs7 hm7 hF7 hk hmin HI1 HB2 HM9 HL7 e4 y6
                have b5 : (0 : Int) ≤ (id : Int) := by omega
                go_wp2_with fail
                refine (HB7.out.meet id _ rfl hid (on_fnd_le HI7.out.A hN id).1 (on_fnd_le HI7.out.B hN id).1).mono ?_
                rintro e w8 ⟨rfl, hb8, hm8⟩
                have HB8 := Lib.hid hb8
                have HM11 : Hid (Mod [] w w8) := HM10.out.then hm8 (fun b hb => Or.inr (by simp only [List.mem_singleton] at hb; rw [hb]; exact HLO3.out))
                clear hb8 hm8 HB7 HM10
                have e4 : w8.cell? ⟨k4, 0, none⟩ = some (.pointer (some ⟨s1, 0, none⟩)) := HB8.out.m4.get rfl
                have e5 : w8.cell? ⟨s1, 1, none⟩ = some (.func (.func 45) #[] #[]) := HB8.out.A.b.get rfl
                have y6 := HB8.out.m4.lt
                have y7 := HB8.out.A.b.lt
                obtain ⟨_, _, _, _, _, ev2, nv2, av2, a2, bb2, VB2, kk1, kk2, hE2, hNx2, kk5, hA2, kk7, kk8, kk9⟩ := HB8.out.A.g
                obtain ⟨A4, c4, rfl, g2, g2'⟩ := hNx2.form
                have p3 : w8.cell? ⟨g, 3, none⟩ = some (.slice A4 D.S c4) := kk1.get rfl
                have zg : g < w8.heap.size := kk1.lt
                have hS0 := HG.out.d.1
                have hidv : id / D.S < n := by rw [Nat.div_lt_iff_lt_mul hS0]; exact hid
                have hids : id % D.S < D.S := Nat.mod_lt _ hS0
                clear hE2 hNx2 hA2 kk1 kk2 kk5 kk7 kk8 kk9
                go_wp2_with fail
                go_region_held3 (fun w' => w'.cell? ⟨k4, 0, none⟩ = some (.pointer (some ⟨s1, 0, none⟩)) ∧ w'.cell? ⟨s1, 1, none⟩ = some (.func (.func 45) #[] #[])) (go_keep)
                  (first
                    | (go_at_call 62; refine (spot_raw g D.S id A4 c4 w8.drew p3 hS0 (by omega)).mono ?_; rintro e w9 ⟨rfl, hm9⟩; have M9 : Mod [] w8 w9 := ((Mod.refl [] w8).drew).trans hm9; have m0 := M9.cell e4 (by simp); have m1 := M9.cell e5 (by simp); have HM12 := Lib.hid M9; clear hm9 M9)
                    | (go_at_call 45; refine (on_calls (HB8.out.A.g.mod0 (by first | exact HM12.out.drew | exact HM12.out)) _ _ hidv hids).mono ?_; rintro e w10 ⟨uu, rfl, ho, hm10, hf⟩; obtain ⟨A5, c5, rfl⟩ := own_any ho; have M10 : Mod [] w8 w10 := (by first | exact HM12.out.trans hm10 | exact HM12.out.drew.trans hm10); have n0 := M10.cell e4 (by simp); have n1 := M10.cell e5 (by simp); have HO := Lib.hid ho; have HM13 := Lib.hid M10; clear ho hm10 M10 hf))
                have hlok : ∀ x ∈ L, HopOk n E D x := by rw [← HLL.out]; exact hopsOn_ok HG.out.ok HG.out.d hids
                have HLOK := Lib.hid hlok
                rw [HLL.out] at HO
                simp only [HLL.out]
                have HB10 := Lib.hid (HB8.out.mod0 HM13.out)
                have HM14 := Lib.hid (HM11.out.trans HM13.out)
                clear hlok m0 m1 n0 n1 HM12 HM13 HM11 HB8 e4 e5 p3 zg y6 y7
                go_wp2_with fail
                obtain ⟨wz, rfl⟩ : ∃ wz : World, wz = w10 := ⟨_, rfl⟩
                go_loopw [114] (fun i wr => ∃ jj : Nat, jj ≤ L.length ∧ i = .int .i64 jj ∧ Hid (Bw wr k1 k2 k3 k4 s1 cb1 eb1 fb1 qq1 s2 cb2 eb2 fb2 qq2 Qn Q2' Fg g n E D st7 b' key lb (meets (fnd st7) (fnd b') (id :: (L.take jj).map fun h => (hopId D.S h).1) r)) ∧ Hid (Mod [] w wr) ∧ Hid (Mod [k3] wz wr)) (fun i _ => L.length - (intOf i).toNat)
                case atStart => exact ⟨0, Nat.zero_le _, rfl, HB10, HM14, Mod.refl _ _⟩
                case round =>
                  obtain ⟨jj, hj, rfl, HBJ, HMJ, HMZ⟩ := hrel
                  by_cases hlt2 : jj < L.length
                  · obtain ⟨⟨v', s', kx⟩, hx⟩ : ∃ x, L[jj]? = some x := ⟨_, List.getElem?_eq_getElem hlt2⟩
                    obtain ⟨hv', hs', hkE⟩ := HLOK.out _ (List.mem_of_getElem? hx)
                    simp only at hv' hs' hkE
                    have hk3n := own_ne_block HO.out HB10.out.m3 (by decide)
                    rcases Sl.of_own HO.out with ⟨_, h0, _⟩ | ⟨hb, ho, c', hv1, _, _, hbm, hbl, hcell⟩
                    · omega
                    injection hv1 with hv1 hv2 hv3
                    subst hv1
                    have hbn : hb ∉ [k3] := by
                      have := hk3n hb (by simp [Value.ownBlock])
                      simpa using this
                    have hc3 := hopCells_get L jj _ hx
                    have t0 := HMZ.out.cell (hcell _ _ hc3.1) hbn
                    have t1 := HMZ.out.cell (hcell _ _ hc3.2.1) hbn
                    have t2 := HMZ.out.cell (hcell _ _ hc3.2.2) hbn
                    rw [← Nat.add_assoc] at t1 t2
                    have b3 : (0 : Int) ≤ (jj : Int) := by omega
                    have b4 : (jj : Int) < (L.length : Int) := by omega
                    have HXX := Lib.hid hx
                    clear hcell hc3 hv2 hv3 hbn hx hbm hk3n
                    go_wp2_with fail
                    have hB := Blk.new wr #[.int .i64 v', .int .i64 s', .int .i64 kx] 116
                    have hM : Mod [] wr (wr.alloc (.cells #[.int .i64 v', .int .i64 s', .int .i64 kx] 116)) := (Mod.refl _ _).alloc _
                    generalize (wr.alloc (.cells #[.int .i64 v', .int .i64 s', .int .i64 kx] 116)) = W8 at hB hM ⊢
                    generalize wr.heap.size = B' at hB ⊢
                    have HBX := Lib.hid (HBJ.out.mod0 hM)
                    have HMX := Lib.hid (HMJ.out.trans hM)
                    have HMY := Lib.hid (HMZ.out.trans hM.nil)
                    obtain ⟨_, _, _, _, _, ev2, nv2, av2, a2, bb2, VB2, kk1, kk2, hE2, hNx2, kk5, hA2, kk7, kk8, kk9⟩ := HBX.out.A.g
                    obtain ⟨A4, c4, rfl, g2, g2'⟩ := hNx2.form
                    have p3 : W8.cell? ⟨g, 3, none⟩ = some (.slice A4 D.S c4) := kk1.get rfl
                    have d0 : W8.cell? ⟨B', 0, none⟩ = some (.int .i64 v') := hB.get rfl
                    have d1 : W8.cell? ⟨B', 1, none⟩ = some (.int .i64 s') := hB.get rfl
                    have zB := hB.lt
                    clear hE2 hNx2 hA2 kk1 kk2 kk5 kk7 kk8 kk9 hB hM HBJ HMJ HMZ t0 t1 t2
                    have hto : v' * D.S + s' < n * D.S := by
                      have h1 : (v' + 1) * D.S ≤ n * D.S := Nat.mul_le_mul_right _ hv'
                      rw [Nat.add_mul] at h1
                      omega
                    have hidr := id_raw g D.S v' s' A4 c4 W8 p3 (by omega)
                    obtain ⟨tt, htt⟩ : ∃ tt, v' * D.S + s' = tt := ⟨_, rfl⟩
                    rw [htt] at hidr hto
                    have HID := Lib.hid hidr
                    have HTT := Lib.hid htt
                    clear hidr htt
                    go_wp2_with fail
                    refine HID.out.mono ?_
                    rintro e w11 ⟨rfl, hm11⟩
                    have HBW := Lib.hid (HBX.out.mod0 hm11)
                    have HMW := Lib.hid (HMX.out.trans hm11)
                    have HMV := Lib.hid (HMY.out.trans hm11.nil)
                    clear hm11 HBX HMX HMY HID d0 d1 p3 zB
                    go_wp2_with fail
                    refine (HBW.out.meet tt _ rfl hto (on_fnd_le HI7.out.A hN tt).1 (on_fnd_le HI7.out.B hN tt).1).mono ?_
                    rintro e w12 ⟨rfl, hb12, hm12⟩
                    have HB12 := Lib.hid hb12
                    have HM12 : Hid (Mod [] w w12) := HMW.out.then hm12 (fun b hb => Or.inr (by simp only [List.mem_singleton] at hb; rw [hb]; exact HLO3.out))
                    have HM13 := Lib.hid (HMV.out.trans hm12)
                    clear hb12 hm12
                    go_wp2_with fail
                    go_roundw
                    case rel =>
                      refine ⟨jj + 1, by omega, by go_num, ?_, HM12, HM13⟩
                      have e9 : (id :: (L.take (jj + 1)).map fun h => (hopId D.S h).1) = (id :: (L.take jj).map fun h => (hopId D.S h).1) ++ [tt] := by
                        rw [take_snoc' HXX.out]
                        simp [hopId, HTT.out]
                      show Bw _ _ _ _ _ _ _ _ _ _ _ _ _ _ _ _ _ _ _ _ _ _ _ _ _ _ _
                      rw [e9, meets_snoc]
                      exact HB12.out
                    case measure => simp [intOf]; omega
                  · obtain rfl : jj = L.length := by omega
                    have hbj := HBJ.out
                    rw [List.take_length] at hbj
                    have HBK := Lib.hid hbj
                    clear hbj HBJ HMZ
                    have hle := HI7.out.A.le
                    have hle2 := HI7.out.B.le
                    go_wp2_with fail
                    go_roundg (2 * (n * D.S) - (Ta + 1 + Tb))
                    case measure => omega
                    case rel => exact ⟨1, Ta + 1, Tb, Qn, Q2', st7, b', key, lb, _, Or.inr rfl, rfl, rfl, HBK, HI7, HMJ, HL10⟩
            · have e4 : wc.cell? ⟨k4, 1, none⟩ = some (.pointer (some ⟨s2, 0, none⟩)) := HB2.out.m4.get rfl
              have y6 := HB2.out.m4.lt
              go_wp2_with fail
              refine (steps_back HG.out.l wc s2 cb2 eb2 fb2 qq2 Q2' b' lb HB2.out.B (HI1.out.B.K hN)).mono ?_
              rintro e w7 (⟨rfl, hnk, rfl⟩ | ⟨id, key, rfl, hid, hk, hmin, Qn, hs7, hm7, hF7⟩)
              · have HNK := Lib.hid hnk
                clear hnk e4
                have e5 : wc.cell? ⟨k4, 0, none⟩ = some (.pointer (some ⟨s1, 0, none⟩)) := HB2.out.m4.get rfl
                go_wp2_with fail
                refine (all_calls (steps_on HG.out.l) (fun v s hs => hopsOn_ok HG.out.ok HG.out.d hs) hN HB2.out.A HI1.out.A).mono ?_
                rintro e w8 ⟨rfl, Qm, st8, l8, T8, hs8, ho8, hK8, hm8, hF8⟩
                have HB8 := Lib.hid (HB2.out.one hs8 hm8 hF8)
                have HM8 : Hid (Mod [] w w8) := HM9.out.then hm8 (fun b hb => Or.inr (HL7.out.1 b hb))
                have HO8 := Lib.hid ho8
                have HK8 := Lib.hid hK8
                have g1 : w8.cell? ⟨k1, 0, none⟩ = some (.pointer (some ⟨s1, 0, none⟩)) := HB8.out.m1.get rfl
                have g2 : w8.cell? ⟨s1, 3, none⟩ = some (.slice (some ⟨cb1, 0, none⟩) (n * D.S) (n * D.S)) := HB8.out.A.b.get rfl
                have g3 := HB8.out.m1.lt
                have g4 := HB8.out.A.b.lt
                clear hs8 ho8 hK8 hm8 hF8 e5 HB2 HM9
                obtain ⟨N, hNN⟩ : ∃ N, n * D.S = N := ⟨_, rfl⟩
                rw [hNN] at g2
                have hN12 : N ≤ 120000 := hNN ▸ hN
                have HNN := Lib.hid hNN
                clear hNN
                go_wp2_with fail
                obtain ⟨wz, rfl⟩ : ∃ wz : World, wz = w8 := ⟨_, rfl⟩
                go_loopw [92] (fun i wr => ∃ jj : Nat, jj ≤ N ∧ i = .int .i64 jj ∧ Hid (Bw wr k1 k2 k3 k4 s1 cb1 eb1 fb1 qq1 s2 cb2 eb2 fb2 qq2 Qm Q2' Fg g n E D st8 b' l8 lb (meets (fnd st8) (fnd b') (List.range jj) r)) ∧ Hid (Mod [] w wr)) (fun i _ => N - (intOf i).toNat)
                case atStart => exact ⟨0, Nat.zero_le _, rfl, HB8, HM8⟩
                case round =>
                  obtain ⟨jj, hj, rfl, HBJ, HMJ⟩ := hrel
                  clear HB8 HM8
                  by_cases hlt2 : jj < N
                  · have b1 : (0 : Int) ≤ (jj : Int) := by omega
                    go_wp2_with fail
                    refine (HBJ.out.meet jj _ rfl (HNN.out ▸ hlt2) (on_fnd_le HO8.out hN jj).1 (on_fnd_le HI1.out.B hN jj).1).mono ?_
                    rintro e w9 ⟨rfl, hb9, hm9⟩
                    have HB9 := Lib.hid hb9
                    have HM10 : Hid (Mod [] w w9) := HMJ.out.then hm9 (fun b hb => Or.inr (by simp only [List.mem_singleton] at hb; rw [hb]; exact HLO3.out))
                    clear hb9 hm9
                    go_wp2_with fail
                    go_roundw
                    case rel =>
                      refine ⟨jj + 1, by omega, by go_num, ?_, HM10⟩
                      show Bw _ _ _ _ _ _ _ _ _ _ _ _ _ _ _ _ _ _ _ _ _ _ _ _ _ _ _
                      rw [List.range_succ, meets_snoc]
                      exact HB9.out
                    case measure => simp [intOf]; omega
                  · obtain rfl : jj = N := by omega
                    have HLW : Hid (LeastW E D v u (meets (fnd st8) (fnd b') (List.range jj) r)) := by
                      have := bi_all HO8.out HI1.out.B HG.out.d HG.out.ok hN HK8.out HNK.out HI1.out.R
                      rw [HNN.out] at this
                      exact this
                    have c3' := HBJ.out.m3.get (i := 0) rfl
                    have y7 := HBJ.out.m3.lt
                    generalize meets (fnd st8) (fnd b') (List.range jj) r = r' at HLW c3' HBJ
                    clear HBJ
                    go_wp2_with fail
                    by_cases hr0 : 0 ≤ r'
                    · go_quiet (fail)
                      go_wp2_with fail
                      go_ret2
                      exact ⟨r', by simp [hr0], HLW.out, HMJ.out.drewN _⟩
                    · have hr1 : decide (0 ≤ r') = false := by simpa using hr0
                      go_quiet (fail)
                      go_wp2_with fail
                      go_ret2
                      exact ⟨r', by simp [hr0] <;> omega, HLW.out, HMJ.out.drewN _⟩
              · have hbi := HI1.out.stepB HG.out.d HG.out.ok hN hk hmin rfl
                have hbw := HB2.out.two hs7 hm7 hF7
                obtain ⟨L, hL⟩ : ∃ L, hopsBack E D (id / D.S) (id % D.S) = L := ⟨_, rfl⟩
                rw [hL] at hbi hbw
                generalize stepSt E D.S id key L b' = st7 at hbi hbw
                have HI7 := Lib.hid hbi
                have HB7 := Lib.hid hbw
                have HLL := Lib.hid hL
                have HM10 : Hid (Mod [] w w7) := HM9.out.then hm7 (fun b hb => Or.inr (HL7.out.2 b hb))
                have HL10 : Hid ((∀ x ∈ seF s1 cb1 eb1 fb1 Q1', w.heap.size ≤ x) ∧ (∀ x ∈ seF s2 cb2 eb2 fb2 Qn, w.heap.size ≤ x)) := by
                  have hsz := HM9.out.size
                  have hnew : ∀ x ∈ seF s2 cb2 eb2 fb2 Qn, w.heap.size ≤ x := fun x hx => by
                    rcases seF_new hF7 x hx with h1 | h1
                    · exact HL7.out.2 x h1
                    · omega
                  exact ⟨HL7.out.1, hnew⟩
                clear hbi hbw hL hs7 hm7 hF7 hk hmin HI1 HB2 HM9 HL7 e4 y6
                have b5 : (0 : Int) ≤ (id : Int) := by omega
                go_wp2_with fail
                refine (HB7.out.meet id _ rfl hid (on_fnd_le HI7.out.A hN id).1 (on_fnd_le HI7.out.B hN id).1).mono ?_
                rintro e w8 ⟨rfl, hb8, hm8⟩
                have HB8 := Lib.hid hb8
                have HM11 : Hid (Mod [] w w8) := HM10.out.then hm8 (fun b hb => Or.inr (by simp only [List.mem_singleton] at hb; rw [hb]; exact HLO3.out))
                clear hb8 hm8 HB7 HM10
                have e4 : w8.cell? ⟨k4, 1, none⟩ = some (.pointer (some ⟨s2, 0, none⟩)) := HB8.out.m4.get rfl
                have e5 : w8.cell? ⟨s2, 1, none⟩ = some (.func (.func 58) #[] #[]) := HB8.out.B.b.get rfl
                have y6 := HB8.out.m4.lt
                have y7 := HB8.out.B.b.lt
                obtain ⟨_, _, _, _, _, ev2, nv2, av2, a2, bb2, VB2, kk1, kk2, hE2, hNx2, kk5, hA2, kk7, kk8, kk9⟩ := HB8.out.B.g
                obtain ⟨A4, c4, rfl, g2, g2'⟩ := hNx2.form
                have p3 : w8.cell? ⟨g, 3, none⟩ = some (.slice A4 D.S c4) := kk1.get rfl
                have zg : g < w8.heap.size := kk1.lt
                have hS0 := HG.out.d.1
                have hidv : id / D.S < n := by rw [Nat.div_lt_iff_lt_mul hS0]; exact hid
                have hids : id % D.S < D.S := Nat.mod_lt _ hS0
                clear hE2 hNx2 hA2 kk1 kk2 kk5 kk7 kk8 kk9
                go_wp2_with fail
                go_region_held3 (fun w' => w'.cell? ⟨k4, 1, none⟩ = some (.pointer (some ⟨s2, 0, none⟩)) ∧ w'.cell? ⟨s2, 1, none⟩ = some (.func (.func 58) #[] #[])) (go_keep)
                  (first
                    | (go_at_call 62; refine (spot_raw g D.S id A4 c4 w8.drew p3 hS0 (by omega)).mono ?_; rintro e w9 ⟨rfl, hm9⟩; have M9 : Mod [] w8 w9 := ((Mod.refl [] w8).drew).trans hm9; have m0 := M9.cell e4 (by simp); have m1 := M9.cell e5 (by simp); have HM12 := Lib.hid M9; clear hm9 M9)
                    | (go_at_call 58; refine (back_calls (HB8.out.B.g.mod0 (by first | exact HM12.out.drew | exact HM12.out)) HG.out.l _ _ hidv hids).mono ?_; rintro e w10 ⟨uu, rfl, ho, hm10, hf⟩; obtain ⟨A5, c5, rfl⟩ := own_any ho; have M10 : Mod [] w8 w10 := (by first | exact HM12.out.trans hm10 | exact HM12.out.drew.trans hm10); have n0 := M10.cell e4 (by simp); have n1 := M10.cell e5 (by simp); have HO := Lib.hid ho; have HM13 := Lib.hid M10; clear ho hm10 M10 hf))
                have hlok : ∀ x ∈ L, HopOk n E D x := by rw [← HLL.out]; exact hopsBack_ok HG.out.ok HG.out.d hids
                have HLOK := Lib.hid hlok
                rw [HLL.out] at HO
                simp only [HLL.out]
                have HB10 := Lib.hid (HB8.out.mod0 HM13.out)
                have HM14 := Lib.hid (HM11.out.trans HM13.out)
                clear hlok m0 m1 n0 n1 HM12 HM13 HM11 HB8 e4 e5 p3 zg y6 y7
                go_wp2_with fail
                obtain ⟨wz, rfl⟩ : ∃ wz : World, wz = w10 := ⟨_, rfl⟩
                go_loopw [114] (fun i wr => ∃ jj : Nat, jj ≤ L.length ∧ i = .int .i64 jj ∧ Hid (Bw wr k1 k2 k3 k4 s1 cb1 eb1 fb1 qq1 s2 cb2 eb2 fb2 qq2 Q1' Qn Fg g n E D a' st7 la key (meets (fnd a') (fnd st7) (id :: (L.take jj).map fun h => (hopId D.S h).1) r)) ∧ Hid (Mod [] w wr) ∧ Hid (Mod [k3] wz wr)) (fun i _ => L.length - (intOf i).toNat)
                case atStart => exact ⟨0, Nat.zero_le _, rfl, HB10, HM14, Mod.refl _ _⟩
                case round =>
                  obtain ⟨jj, hj, rfl, HBJ, HMJ, HMZ⟩ := hrel
                  by_cases hlt2 : jj < L.length
                  · obtain ⟨⟨v', s', kx⟩, hx⟩ : ∃ x, L[jj]? = some x := ⟨_, List.getElem?_eq_getElem hlt2⟩
                    obtain ⟨hv', hs', hkE⟩ := HLOK.out _ (List.mem_of_getElem? hx)
                    simp only at hv' hs' hkE
                    have hk3n := own_ne_block HO.out HB10.out.m3 (by decide)
                    rcases Sl.of_own HO.out with ⟨_, h0, _⟩ | ⟨hb, ho, c', hv1, _, _, hbm, hbl, hcell⟩
                    · omega
                    injection hv1 with hv1 hv2 hv3
                    subst hv1
                    have hbn : hb ∉ [k3] := by
                      have := hk3n hb (by simp [Value.ownBlock])
                      simpa using this
                    have hc3 := hopCells_get L jj _ hx
                    have t0 := HMZ.out.cell (hcell _ _ hc3.1) hbn
                    have t1 := HMZ.out.cell (hcell _ _ hc3.2.1) hbn
                    have t2 := HMZ.out.cell (hcell _ _ hc3.2.2) hbn
                    rw [← Nat.add_assoc] at t1 t2
                    have b3 : (0 : Int) ≤ (jj : Int) := by omega
                    have b4 : (jj : Int) < (L.length : Int) := by omega
                    have HXX := Lib.hid hx
                    clear hcell hc3 hv2 hv3 hbn hx hbm hk3n
                    go_wp2_with fail
                    have hB := Blk.new wr #[.int .i64 v', .int .i64 s', .int .i64 kx] 116
                    have hM : Mod [] wr (wr.alloc (.cells #[.int .i64 v', .int .i64 s', .int .i64 kx] 116)) := (Mod.refl _ _).alloc _
                    generalize (wr.alloc (.cells #[.int .i64 v', .int .i64 s', .int .i64 kx] 116)) = W8 at hB hM ⊢
                    generalize wr.heap.size = B' at hB ⊢
                    have HBX := Lib.hid (HBJ.out.mod0 hM)
                    have HMX := Lib.hid (HMJ.out.trans hM)
                    have HMY := Lib.hid (HMZ.out.trans hM.nil)
                    obtain ⟨_, _, _, _, _, ev2, nv2, av2, a2, bb2, VB2, kk1, kk2, hE2, hNx2, kk5, hA2, kk7, kk8, kk9⟩ := HBX.out.B.g
                    obtain ⟨A4, c4, rfl, g2, g2'⟩ := hNx2.form
                    have p3 : W8.cell? ⟨g, 3, none⟩ = some (.slice A4 D.S c4) := kk1.get rfl
                    have d0 : W8.cell? ⟨B', 0, none⟩ = some (.int .i64 v') := hB.get rfl
                    have d1 : W8.cell? ⟨B', 1, none⟩ = some (.int .i64 s') := hB.get rfl
                    have zB := hB.lt
                    clear hE2 hNx2 hA2 kk1 kk2 kk5 kk7 kk8 kk9 hB hM HBJ HMJ HMZ t0 t1 t2
                    have hto : v' * D.S + s' < n * D.S := by
                      have h1 : (v' + 1) * D.S ≤ n * D.S := Nat.mul_le_mul_right _ hv'
                      rw [Nat.add_mul] at h1
                      omega
                    have hidr := id_raw g D.S v' s' A4 c4 W8 p3 (by omega)
                    obtain ⟨tt, htt⟩ : ∃ tt, v' * D.S + s' = tt := ⟨_, rfl⟩
                    rw [htt] at hidr hto
                    have HID := Lib.hid hidr
                    have HTT := Lib.hid htt
                    clear hidr htt
                    go_wp2_with fail
                    refine HID.out.mono ?_
                    rintro e w11 ⟨rfl, hm11⟩
                    have HBW := Lib.hid (HBX.out.mod0 hm11)
                    have HMW := Lib.hid (HMX.out.trans hm11)
                    have HMV := Lib.hid (HMY.out.trans hm11.nil)
                    clear hm11 HBX HMX HMY HID d0 d1 p3 zB
                    go_wp2_with fail
                    refine (HBW.out.meet tt _ rfl hto (on_fnd_le HI7.out.A hN tt).1 (on_fnd_le HI7.out.B hN tt).1).mono ?_
                    rintro e w12 ⟨rfl, hb12, hm12⟩
                    have HB12 := Lib.hid hb12
                    have HM12 : Hid (Mod [] w w12) := HMW.out.then hm12 (fun b hb => Or.inr (by simp only [List.mem_singleton] at hb; rw [hb]; exact HLO3.out))
                    have HM13 := Lib.hid (HMV.out.trans hm12)
                    clear hb12 hm12
                    go_wp2_with fail
                    go_roundw
                    case rel =>
                      refine ⟨jj + 1, by omega, by go_num, ?_, HM12, HM13⟩
                      have e9 : (id :: (L.take (jj + 1)).map fun h => (hopId D.S h).1) = (id :: (L.take jj).map fun h => (hopId D.S h).1) ++ [tt] := by
                        rw [take_snoc' HXX.out]
                        simp [hopId, HTT.out]
                      show Bw _ _ _ _ _ _ _ _ _ _ _ _ _ _ _ _ _ _ _ _ _ _ _ _ _ _ _
                      rw [e9, meets_snoc]
                      exact HB12.out
                    case measure => simp [intOf]; omega
                  · obtain rfl : jj = L.length := by omega
                    have hbj := HBJ.out
                    rw [List.take_length] at hbj
                    have HBK := Lib.hid hbj
                    clear hbj HBJ HMZ
                    have hle := HI7.out.A.le
                    have hle2 := HI7.out.B.le
                    go_wp2_with fail
                    go_roundg (2 * (n * D.S) - (Ta + (Tb + 1)))
                    case measure => omega
                    case rel => exact ⟨0, Ta, Tb + 1, Q1', Qn, a', st7, la, key, _, Or.inl rfl, rfl, rfl, HBK, HI7, HMJ, HL10⟩
end Go.Proofs.Ytekeondobdjppaa
