/- What a search finds: bounds, the way to each spot. -/
import Derived.Test.YtekeondobdjppaaDij
namespace Go.Proofs.Ytekeondobdjppaa
open Go.RowKit

/-- How many of the first n spots are settled. -/
def cnt : Nat → (Nat → Int) → Nat
  | 0, _ => 0
  | n + 1, c => cnt n c + if 0 ≤ c n then 1 else 0
theorem cnt_le (n : Nat) (c : Nat → Int) : cnt n c ≤ n := by
  induction n with
  | zero => exact Nat.le_refl _
  | succ n ih => simp only [cnt]; split <;> omega
theorem cnt_far {n id : Nat} (c : Nat → Int) (x : Int) (h : n ≤ id) : cnt n (updF c id x) = cnt n c := by
  induction n with
  | zero => rfl
  | succ n ih =>
    simp only [cnt]
    rw [ih (by omega)]
    have : updF c id x n = c n := by simp only [updF]; rw [if_neg (by omega)]
    rw [this]
theorem cnt_set {n id : Nat} {c : Nat → Int} {x : Int} (h : id < n) (hc : c id < 0) (hx : 0 ≤ x) : cnt n (updF c id x) = cnt n c + 1 := by
  induction n with
  | zero => omega
  | succ n ih =>
    simp only [cnt]
    by_cases e : id = n
    · subst e
      rw [cnt_far _ _ (Nat.le_refl _)]
      have : updF c id x id = x := by simp [updF]
      rw [this, if_pos hx, if_neg (by omega)]
    · rw [ih (by omega)]
      have : updF c id x n = c n := by simp only [updF]; rw [if_neg (by omega)]
      rw [this]
      omega
theorem cnt_neg (n : Nat) : cnt n (fun _ => -1) = 0 := by
  induction n with
  | zero => rfl
  | succ n ih => simp [cnt, ih]

/-- Bounds of a search of N spots, T of which are settled. -/
structure Bd (N : Nat) (t : Nat → Nat) (T : Nat) (st : St) : Prop where
  c : ∀ x, 0 ≤ st.c x → x < N ∧ st.c x ≤ (t x : Int) * 2147483647
  k : ∀ x d, st.K x = some d → x < N ∧ d ≤ (T : Int) * 2147483647
  n : cnt N st.c = T
theorem Bd.le {N : Nat} {t : Nat → Nat} {T : Nat} {st : St} (h : Bd N t T st) : T ≤ N := by
  have := cnt_le N st.c
  rw [h.n] at this
  exact this

theorem relax1_c (E : List Ed) (id : Nat) (key : Int) (st : St) (h : Nat × Nat) : (relax1 E id key st h).c = st.c := by simp only [relax1]; split <;> rfl
theorem stepSt_c (E : List Ed) (S id : Nat) (key : Int) (l : List Hop) (st : St) : (stepSt E S id key l st).c = updF st.c id key := by
  refine snocInd (P := fun l => (stepSt E S id key l st).c = updF st.c id key) rfl ?_ l
  intro l x ih
  rw [stepSt_snoc, relax1_c, ih]
theorem step_bd {N : Nat} {E : List Ed} {t : Nat → Nat} {T : Nat} {st : St} (h : Bd N t T st) {id S : Nat} {key : Int} {hs : List Hop} (h0 : 0 ≤ key) (hc : st.c id < 0) (hk : st.K id = some key) (hN : ∀ x ∈ hs, (hopId S x).1 < N) (hE : ∀ k, (edAt E k).c ≤ 2147483647) :
    Bd N (fun x => if x = id then T else t x) (T + 1) (stepSt E S id key hs st) := by
  have hid := h.k id key hk
  have hcs : ∀ l x, 0 ≤ (stepSt E S id key l st).c x → x < N ∧ (stepSt E S id key l st).c x ≤ ((if x = id then T else t x : Nat) : Int) * 2147483647 := by
    intro l x hx
    rw [stepSt_c] at hx ⊢
    by_cases e : x = id
    · subst e
      simp only [updF, if_true]
      exact hid
    · simp only [updF, if_neg e] at hx ⊢
      exact h.c x hx
  refine ⟨hcs hs, ?_, ?_⟩
  · have main : ∀ l1 l2 : List Hop, hs = l1 ++ l2 → ∀ x d, (stepSt E S id key l1 st).K x = some d → x < N ∧ d ≤ ((T + 1 : Nat) : Int) * 2147483647 := by
      intro l1
      refine snocInd (P := fun l1 => ∀ l2 : List Hop, hs = l1 ++ l2 → ∀ x d, (stepSt E S id key l1 st).K x = some d → x < N ∧ d ≤ ((T + 1 : Nat) : Int) * 2147483647) ?_ ?_ l1
      · intro l2 _ x d hd
        have hd' : delK st.K id x = some d := hd
        simp only [delK] at hd'
        split at hd'
        · cases hd'
        · have := h.k x d hd'
          omega
      · intro l1 y ih l2 e x d hd
        have hy : (hopId S y).1 < N := hN y (by rw [e]; simp)
        have hi := ih (y :: l2) (by simp [e])
        rw [stepSt_snoc] at hd
        simp only [relax1] at hd
        split at hd
        · rename_i hcond
          simp only [putK, hcond.2, if_true, updK] at hd
          split at hd
          · rename_i ex
            injection hd with hd
            subst ex
            have := hE (hopId S y).2
            refine ⟨hy, ?_⟩
            omega
          · exact hi x d hd
        · exact hi x d hd
    exact main hs [] (by simp)
  · rw [stepSt_c, cnt_set hid.1 hc h0, h.n]

/-- The edges by which a spot was found, from the first one. -/
inductive Ch (st : St) : Nat → List Nat → Prop where
  | nil (x : Nat) : st.f x = -1 → Ch st x []
  | snoc (x x' k : Nat) (l : List Nat) : st.f x = x' → st.e x = k → 0 ≤ st.c x' → Ch st x' l → Ch st x (l ++ [k])

/-- A walk of edges from v: to where, its cost, its word. -/
inductive Wlk (E : List Ed) (v : Nat) : List Nat → Nat → Int → List Nat → Prop where
  | nil : Wlk E v [] v 0 []
  | snoc (l : List Nat) (u : Nat) (d : Int) (w : List Nat) (k : Nat) : Wlk E v l u d w → k < E.length → (edAt E k).f = u → Wlk E v (l ++ [k]) (edAt E k).t (d + (edAt E k).c) (w ++ [(edAt E k).m])
def runD (D : Dm) (s : Nat) (w : List Nat) : Nat := w.foldl D.nx s
theorem runD_snoc (D : Dm) (s : Nat) (w : List Nat) (m : Nat) : runD D s (w ++ [m]) = D.nx (runD D s w) m := by simp [runD, List.foldl_append]
theorem Wlk.nonneg {E : List Ed} {v : Nat} {l : List Nat} {u : Nat} {d : Int} {w : List Nat} (h : Wlk E v l u d w) : 0 ≤ d := by
  induction h with
  | nil => exact Int.le_refl _
  | snoc => omega
theorem Wlk.mode {E : List Ed} {n v : Nat} {l : List Nat} {u : Nat} {d : Int} {w : List Nat} (hE : EdOk n E) (h : Wlk E v l u d w) : ∀ m ∈ w, m < 5 := by
  induction h with
  | nil => simp
  | snoc l u d w k h1 h2 h3 ih =>
    intro m hm
    rcases List.mem_append.1 hm with h | h
    · exact ih m h
    · simp only [List.mem_singleton] at h
      subst h
      exact (hE _ (List.mem_of_getElem? (edAt_of h2))).2.2.1
theorem Wlk.to_lt {E : List Ed} {n v : Nat} {l : List Nat} {u : Nat} {d : Int} {w : List Nat} (hE : EdOk n E) (hv : v < n) (h : Wlk E v l u d w) : u < n := by
  cases h with
  | nil => exact hv
  | snoc l u d w k h1 h2 h3 => exact (hE _ (List.mem_of_getElem? (edAt_of h2))).2.1
theorem runD_lt {D : Dm} (hD : DmOk D) {s : Nat} (hs : s < D.S) : ∀ w : List Nat, (∀ m ∈ w, m < 5) → runD D s w < D.S := by
  intro w
  refine snocInd (P := fun w => (∀ m ∈ w, m < 5) → runD D s w < D.S) (fun _ => hs) ?_ w
  intro l x ih h
  rw [runD_snoc]
  exact hD.2.2 _ _ (ih (fun m hm => h m (by simp [hm]))) (h x (by simp))

def hopI (hp : Nat → Nat → List Hop) (S id : Nat) : List (Nat × Nat) := (hp (id / S) (id % S)).map (hopId S)
abbrev wtE (E : List Ed) : Nat → Nat := fun k => (edAt E k).c
theorem divS {S t q : Nat} (h : q < S) : (t * S + q) / S = t := by
  rw [Nat.mul_comm, Nat.mul_add_div (by omega), Nat.div_eq_of_lt h, Nat.add_zero]
theorem modS {S t q : Nat} (h : q < S) : (t * S + q) % S = q := by
  rw [Nat.mul_comm, Nat.mul_add_mod, Nat.mod_eq_of_lt h]
theorem idS (S x : Nat) : x / S * S + x % S = x := by rw [Nat.mul_comm]; exact Nat.div_add_mod x S
theorem outs_mem {E : List Ed} {k v : Nat} : k ∈ outsK E E.length v ↔ k < E.length ∧ (edAt E k).f = v := by
  refine ⟨mem_outs, fun h => ?_⟩
  simp only [outsK, List.mem_filter, List.mem_range]
  refine ⟨h.1, ?_⟩
  rw [edAt_of h.1]
  simp [h.2]
theorem ins_mem {E : List Ed} {k v : Nat} : k ∈ insK E E.length v ↔ k < E.length ∧ (edAt E k).t = v := by
  refine ⟨mem_ins, fun h => ?_⟩
  simp only [insK, List.mem_filter, List.mem_range]
  refine ⟨h.1, ?_⟩
  rw [edAt_of h.1]
  simp [h.2]
theorem mem_hopI_on {E : List Ed} {D : Dm} {x y k : Nat} : (y, k) ∈ hopI (hopsOn E D) D.S x ↔ k < E.length ∧ (edAt E k).f = x / D.S ∧ y = (edAt E k).t * D.S + D.nx (x % D.S) (edAt E k).m := by
  simp only [hopI, hopsOn, List.map_map, List.mem_map, outs_mem]
  constructor
  · rintro ⟨k', h1, h2⟩
    simp only [Function.comp, hopId, hopOn, Prod.mk.injEq] at h2
    obtain ⟨rfl, rfl⟩ := h2
    exact ⟨h1.1, h1.2, rfl⟩
  · rintro ⟨h1, h2, rfl⟩
    exact ⟨k, ⟨h1, h2⟩, rfl⟩
theorem mem_hopI_back {E : List Ed} {D : Dm} {x y k : Nat} : (y, k) ∈ hopI (hopsBack E D) D.S x ↔ k < E.length ∧ (edAt E k).t = x / D.S ∧ ∃ q, q < D.S ∧ D.nx q (edAt E k).m = x % D.S ∧ y = (edAt E k).f * D.S + q := by
  simp only [hopI, hopsBack, List.mem_map, List.mem_flatMap, ins_mem]
  constructor
  · rintro ⟨h, ⟨k', h1, q, hq, rfl⟩, h2⟩
    simp only [hopId, hopBack, Prod.mk.injEq] at h2
    obtain ⟨rfl, rfl⟩ := h2
    simp only [befs, List.mem_filter, List.mem_range, beq_iff_eq] at hq
    exact ⟨h1.1, h1.2, q, hq.1, hq.2, rfl⟩
  · rintro ⟨h1, h2, q, hq, hn, rfl⟩
    refine ⟨hopBack E k q, ⟨k, ⟨h1, h2⟩, q, ?_, rfl⟩, rfl⟩
    simp only [befs, List.mem_filter, List.mem_range, beq_iff_eq]
    exact ⟨hq, hn⟩

/-- Ways of spots from v are walks. -/
theorem rc_wlk {E : List Ed} {D : Dm} {n v : Nat} (hE : EdOk n E) (hD : DmOk D) {x : Nat} {d : Int} (h : Rc (fun y => y = v * D.S) (hopI (hopsOn E D) D.S) (wtE E) x d) : ∃ l w, Wlk E v l (x / D.S) d w ∧ runD D 0 w = x % D.S := by
  have hS := hD.1
  induction h with
  | src x h =>
    subst h
    refine ⟨[], [], ?_, ?_⟩
    · rw [Nat.mul_div_cancel _ hS]; exact .nil
    · rw [Nat.mul_mod_left]; rfl
  | hop x d y k _ hy ih =>
    obtain ⟨l, w, h1, h2⟩ := ih
    obtain ⟨a1, a2, rfl⟩ := mem_hopI_on.1 hy
    have hm := (hE _ (List.mem_of_getElem? (edAt_of a1))).2.2.1
    have hq := hD.2.2 (x % D.S) (edAt E k).m (Nat.mod_lt _ hS) hm
    refine ⟨l ++ [k], w ++ [(edAt E k).m], ?_, ?_⟩
    · rw [divS hq]
      exact .snoc l _ d w k h1 a1 a2
    · rw [runD_snoc, h2, modS hq]
theorem wlk_rc {E : List Ed} {D : Dm} {n v : Nat} (hE : EdOk n E) (hD : DmOk D) {l : List Nat} {u : Nat} {d : Int} {w : List Nat} (h : Wlk E v l u d w) : Rc (fun y => y = v * D.S) (hopI (hopsOn E D) D.S) (wtE E) (u * D.S + runD D 0 w) d := by
  have hS := hD.1
  induction h with
  | nil => exact .src _ (by simp [runD])
  | snoc l u d w k h1 h2 h3 ih =>
    have hq := runD_lt hD hS w (h1.mode hE)
    refine .hop _ d _ k ih (mem_hopI_on.2 ⟨h2, ?_, ?_⟩)
    · rw [divS hq, h3]
    · rw [modS hq, runD_snoc]

/-- All is found. -/
structure Fnd (src : Nat → Prop) (H : Nat → List (Nat × Nat)) (wt : Nat → Nat) (N : Nat) (st : St) : Prop where
  lt : ∀ x, 0 ≤ st.c x → x < N
  rc : ∀ x, 0 ≤ st.c x → Rc src H wt x (st.c x)
  le : ∀ x d, Rc src H wt x d → 0 ≤ st.c x ∧ st.c x ≤ d
  bd : ∀ x, st.c x ≤ 2147483647 * 1000000
  neg : ∀ x, st.c x < 0 → st.c x = -1
  tr : ∃ (t : Nat → Nat) (T : Nat), T ≤ N ∧ ∀ x, 0 ≤ st.c x → t x < T ∧ Tr src H wt t st x (st.c x)

theorem Fnd.chain {E : List Ed} {D : Dm} {n v N : Nat} {st : St} (hE : EdOk n E) (hD : DmOk D) (h : Fnd (fun y => y = v * D.S) (hopI (hopsOn E D) D.S) (wtE E) N st) {x : Nat} (hx : 0 ≤ st.c x) :
    ∃ l w, Ch st x l ∧ l.length ≤ N ∧ Wlk E v l (x / D.S) (st.c x) w ∧ runD D 0 w = x % D.S := by
  have hS := hD.1
  obtain ⟨t, T, hT, ht⟩ := h.tr
  have main : ∀ m x, t x ≤ m → 0 ≤ st.c x → ∃ l w, Ch st x l ∧ l.length ≤ t x ∧ Wlk E v l (x / D.S) (st.c x) w ∧ runD D 0 w = x % D.S := by
    intro m
    induction m with
    | zero =>
      intro x hm hx
      rcases (ht x hx).2 with ⟨h1, h2, h3⟩ | ⟨x', k, h1, h2, h3, h4, h5, h6⟩
      · subst h2
        rw [h3]
        refine ⟨[], [], .nil _ h1, Nat.zero_le _, ?_, ?_⟩
        · rw [Nat.mul_div_cancel _ hS]; exact .nil
        · rw [Nat.mul_mod_left]; rfl
      · have := h6 hx; omega
    | succ m ih =>
      intro x hm hx
      rcases (ht x hx).2 with ⟨h1, h2, h3⟩ | ⟨x', k, h1, h2, h3, h4, h5, h6⟩
      · subst h2
        rw [h3]
        refine ⟨[], [], .nil _ h1, Nat.zero_le _, ?_, ?_⟩
        · rw [Nat.mul_div_cancel _ hS]; exact .nil
        · rw [Nat.mul_mod_left]; rfl
      · have h7 := h6 hx
        obtain ⟨l, w, g1, g2, g3, g4⟩ := ih x' (by omega) h3
        obtain ⟨a1, a2, rfl⟩ := mem_hopI_on.1 h4
        have hm := (hE _ (List.mem_of_getElem? (edAt_of a1))).2.2.1
        have hq := hD.2.2 (x' % D.S) (edAt E k).m (Nat.mod_lt _ hS) hm
        refine ⟨l ++ [k], w ++ [(edAt E k).m], .snoc _ x' k l h1 h2 h3 g1, by simp; omega, ?_, ?_⟩
        · rw [divS hq, h5]
          exact .snoc l _ _ w k g3 a1 a2
        · rw [runD_snoc, g4, modS hq]
  obtain ⟨l, w, g1, g2, g3, g4⟩ := main (t x) x (Nat.le_refl _) hx
  exact ⟨l, w, g1, by have := (ht x hx).1; omega, g3, g4⟩

/-- The least cost of a walk from v to u whose word is taken; -1: there is none. -/
def LeastW (E : List Ed) (D : Dm) (v u : Nat) (r : Int) : Prop :=
  (r = -1 ∧ ∀ l d w, Wlk E v l u d w → D.ac (runD D 0 w) = false) ∨
  (0 ≤ r ∧ (∃ l w, Wlk E v l u r w ∧ D.ac (runD D 0 w) = true) ∧ ∀ l d w, Wlk E v l u d w → D.ac (runD D 0 w) = true → r ≤ d)
theorem LeastW.one {E : List Ed} {D : Dm} {v u : Nat} {r s : Int} (h : LeastW E D v u r) (k : LeastW E D v u s) : r = s := by
  rcases h with ⟨h1, h2⟩ | ⟨h1, ⟨l, w, h2, h3⟩, h4⟩
  · rcases k with ⟨k1, k2⟩ | ⟨k1, ⟨l', w', k2, k3⟩, k4⟩
    · omega
    · have := h2 _ _ _ k2; rw [k3] at this; cases this
  · rcases k with ⟨k1, k2⟩ | ⟨k1, ⟨l', w', k2, k3⟩, k4⟩
    · have := k2 _ _ _ h2; rw [h3] at this; cases this
    · have a := h4 _ _ _ k2 k3
      have b := k4 _ _ _ h2 h3
      omega

/-- What best tells: the least of a vertex's spots that accept. -/
def IsBest (D : Dm) (c : Nat → Int) (v k : Nat) (r : Int) : Prop :=
  (r = -1 ∧ ∀ q, q < k → D.ac q = true → c (v * D.S + q) < 0) ∨
  ∃ q, q < k ∧ r = ((v * D.S + q : Nat) : Int) ∧ D.ac q = true ∧ 0 ≤ c (v * D.S + q) ∧ ∀ q', q' < k → D.ac q' = true → 0 ≤ c (v * D.S + q') → c (v * D.S + q) ≤ c (v * D.S + q')

theorem best_none {E : List Ed} {D : Dm} {n v u N : Nat} {st : St} (hE : EdOk n E) (hD : DmOk D) (h : Fnd (fun y => y = v * D.S) (hopI (hopsOn E D) D.S) (wtE E) N st) (hb : IsBest D st.c u D.S (-1)) : LeastW E D v u (-1) := by
  rcases hb with ⟨_, hb⟩ | ⟨q, _, h1, _⟩
  · refine Or.inl ⟨rfl, fun l d w hw => ?_⟩
    cases ha : D.ac (runD D 0 w) with
    | false => rfl
    | true =>
      have h1 := hb _ (runD_lt hD hD.1 w (hw.mode hE)) ha
      have h2 := (h.le _ _ (wlk_rc hE hD hw)).1
      omega
  · omega
theorem best_some {E : List Ed} {D : Dm} {n v u N id : Nat} {st : St} (hE : EdOk n E) (hD : DmOk D) (h : Fnd (fun y => y = v * D.S) (hopI (hopsOn E D) D.S) (wtE E) N st) (hb : IsBest D st.c u D.S (id : Int)) :
    LeastW E D v u (st.c id) ∧ 0 ≤ st.c id ∧ ∃ l w, Ch st id l ∧ l.length ≤ N ∧ Wlk E v l u (st.c id) w ∧ D.ac (runD D 0 w) = true := by
  rcases hb with ⟨h1, _⟩ | ⟨q, h0, h1, h2, h3, h4⟩
  · omega
  · have e : id = u * D.S + q := by omega
    subst e
    obtain ⟨l, w, g1, g2, g3, g4⟩ := h.chain hE hD h3
    rw [divS h0] at g3
    rw [modS h0] at g4
    refine ⟨Or.inr ⟨h3, ⟨l, w, g3, by rw [g4]; exact h2⟩, fun l' d' w' hw ha => ?_⟩, h3, l, w, g1, g2, g3, by rw [g4]; exact h2⟩
    have a := h.le _ _ (wlk_rc hE hD hw)
    have b := h4 _ (runD_lt hD hD.1 w' (hw.mode hE)) ha a.1
    omega
end Go.Proofs.Ytekeondobdjppaa
