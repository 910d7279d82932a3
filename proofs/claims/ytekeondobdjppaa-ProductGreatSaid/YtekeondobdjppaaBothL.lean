/- From both sides: the plain law. -/
import Derived.Test.YtekeondobdjppaaDijB
namespace Go.Proofs.Ytekeondobdjppaa
open Go.RowKit

/-- What a spot costs as far as is known; -1: nothing is. -/
def fnd (st : St) (x : Nat) : Int := if 0 ≤ st.c x then st.c x else match st.K x with | some k => k | none => -1
def meetV (r a b : Int) : Int := if 0 ≤ a ∧ 0 ≤ b ∧ (r < 0 ∨ a + b < r) then a + b else r
def meets (F B : Nat → Int) (l : List Nat) (r : Int) : Int := l.foldl (fun r x => meetV r (F x) (B x)) r
theorem meets_snoc (F B : Nat → Int) (l : List Nat) (x : Nat) (r : Int) : meets F B (l ++ [x]) r = meetV (meets F B l r) (F x) (B x) := by simp [meets, List.foldl_append]
theorem meetV_le {r a b : Int} (h : 0 ≤ r) : 0 ≤ meetV r a b ∧ meetV r a b ≤ r := by simp only [meetV]; split <;> omega
theorem meetV_own {r a b : Int} (ha : 0 ≤ a) (hb : 0 ≤ b) : 0 ≤ meetV r a b ∧ meetV r a b ≤ a + b := by simp only [meetV]; split <;> omega
theorem meets_le {F B : Nat → Int} (l : List Nat) {r : Int} (h : 0 ≤ r) : 0 ≤ meets F B l r ∧ meets F B l r ≤ r := by
  refine snocInd (P := fun l => 0 ≤ meets F B l r ∧ meets F B l r ≤ r) ⟨h, Int.le_refl _⟩ ?_ l
  intro l x ih
  rw [meets_snoc]
  have := meetV_le (a := F x) (b := B x) ih.1
  omega
theorem meets_mem {F B : Nat → Int} (l : List Nat) (r : Int) : ∀ x ∈ l, 0 ≤ F x → 0 ≤ B x → 0 ≤ meets F B l r ∧ meets F B l r ≤ F x + B x := by
  refine snocInd (P := fun l => ∀ x ∈ l, 0 ≤ F x → 0 ≤ B x → 0 ≤ meets F B l r ∧ meets F B l r ≤ F x + B x) (fun x hx => by simp at hx) ?_ l
  intro l y ih x hx ha hb
  rw [meets_snoc]
  rcases List.mem_append.1 hx with h | h
  · have h1 := ih x h ha hb
    have := meetV_le (a := F y) (b := B y) h1.1
    omega
  · simp only [List.mem_singleton] at h
    subst h
    exact meetV_own ha hb
theorem meets_of {F B : Nat → Int} (l : List Nat) (r : Int) : meets F B l r = r ∨ ∃ x, 0 ≤ F x ∧ 0 ≤ B x ∧ meets F B l r = F x + B x := by
  refine snocInd (P := fun l => meets F B l r = r ∨ ∃ x, 0 ≤ F x ∧ 0 ≤ B x ∧ meets F B l r = F x + B x) (Or.inl rfl) ?_ l
  intro l y ih
  rw [meets_snoc, meetV]
  split
  · rename_i h
    exact Or.inr ⟨y, h.1, h.2.1, rfl⟩
  · exact ih

theorem fnd_rc {src : Nat → Prop} {H : Nat → List (Nat × Nat)} {wt : Nat → Nat} {now : Nat} {dn : List (Nat × Nat)} {t : Nat → Nat} {T : Nat} {st : St} {l : Int} (h : Inv src H wt now dn t T st l) {x : Nat} (hx : 0 ≤ fnd st x) : Rc src H wt x (fnd st x) := by
  simp only [fnd] at hx ⊢
  split
  · rename_i hc; exact (h.c x hc).1
  · rename_i hc
    rw [if_neg hc] at hx
    cases hk : st.K x with
    | none => rw [hk] at hx; simp only at hx; omega
    | some k => exact (h.k x k hk).2.1
theorem fnd_K {st : St} {x : Nat} {k : Int} (hc : st.c x < 0) (hk : st.K x = some k) : fnd st x = k := by simp only [fnd, hk]; rw [if_neg (by omega)]
theorem fnd_c {st : St} {x : Nat} (hc : 0 ≤ st.c x) : fnd st x = st.c x := by simp only [fnd]; rw [if_pos hc]

/-- A step turns what is known of its own hops alone. -/
theorem fnd_step (E : List Ed) (S id : Nat) (key : Int) (st : St) (hc : st.c id < 0) (hk : st.K id = some key) (h0 : 0 ≤ key) (l : List Hop) : ∀ x, x ∉ l.map (fun h => (hopId S h).1) → fnd (stepSt E S id key l st) x = fnd st x := by
  refine snocInd (P := fun l => ∀ x, x ∉ l.map (fun h => (hopId S h).1) → fnd (stepSt E S id key l st) x = fnd st x) ?_ ?_ l
  · intro x _
    by_cases e : x = id
    · subst e
      rw [fnd_K hc hk, fnd_c]
      · simp [stepSt_nil, settle, updF]
      · simpa [stepSt_nil, settle, updF] using h0
    · simp [fnd, stepSt_nil, settle, updF, delK, e]
  · intro l y ih x hx
    rw [List.map_append, List.mem_append] at hx
    have h1 := ih x (fun h => hx (Or.inl h))
    have h2 : x ≠ (hopId S y).1 := fun e => hx (Or.inr (by simp [e]))
    rw [stepSt_snoc, ← h1]
    simp only [relax1]
    split
    · rename_i hcond
      simp [fnd, putK, hcond.2, updK, h2]
    · rfl

/-- As far as a search has come. -/
theorem mid {src : Nat → Prop} {H : Nat → List (Nat × Nat)} {wt : Nat → Nat} {now : Nat} {t : Nat → Nat} {T : Nat} {st : St} {l : Int} (h : Inv src H wt now (H now) t T st l) {x : Nat} {d : Int} (hr : Rc src H wt x d) : (0 ≤ st.c x ∧ st.c x ≤ d) ∨ l ≤ d := by
  induction hr with
  | src x hx =>
    rcases h.s x hx with a | a
    · exact Or.inl a
    · exact Or.inr (h.k x 0 a).1
  | hop x d y k _ hy ih =>
    rcases ih with a | a
    · rcases h.h x y k a.1 (fun e => by subst e; exact hy) hy with b | ⟨d', b1, b2⟩
      · exact Or.inl ⟨b.1, by omega⟩
      · have := (h.k y d' b1).1
        exact Or.inr (by omega)
    · exact Or.inr (by omega)

section
variable {sf sb : Nat → Prop} {Hf Hb : Nat → List (Nat × Nat)} {wt : Nat → Nat}
/-- A way there and a way back are one. -/
theorem rc_join (hfb : ∀ x y k, (y, k) ∈ Hf x ↔ (x, k) ∈ Hb y) {x : Nat} {a b : Int} (h : Rc sf Hf wt x a) (k : Rc sb Hb wt x b) : ∃ y, sb y ∧ Rc sf Hf wt y (a + b) := by
  induction k generalizing a with
  | src x hx => exact ⟨x, hx, by rw [Int.add_zero]; exact h⟩
  | hop x d y k _ hy ih =>
    obtain ⟨z, z1, z2⟩ := ih (Rc.hop y a x k h ((hfb y x k).2 hy))
    refine ⟨z, z1, ?_⟩
    rw [show a + (d + (wt k : Int)) = a + wt k + d by omega]
    exact z2

theorem both_least (hfb : ∀ x y k, (y, k) ∈ Hf x ↔ (x, k) ∈ Hb y) {nf nb : Nat} {tf tb : Nat → Nat} {Tf Tb : Nat} {f b : St} {lf lb r : Int}
    (hf : Inv sf Hf wt nf (Hf nf) tf Tf f lf) (hb : Inv sb Hb wt nb (Hb nb) tb Tb b lb) (h3 : ∀ x, 0 ≤ fnd f x → 0 ≤ fnd b x → 0 ≤ r ∧ r ≤ fnd f x + fnd b x) (hl : r ≤ lf + lb)
    {y : Nat} {d : Int} (hy : Rc sf Hf wt y d) (hs : sb y) : r ≤ d := by
  have fb : ∀ x k, f.K x = some k → fnd f x = k := fun x k hk => by
    refine fnd_K ?_ hk
    rcases Int.lt_or_le (f.c x) 0 with h | h
    · exact h
    · have := (hf.c x h).2.2.2.1
      rw [hk] at this; cases this
  have main : ∀ x d, Rc sf Hf wt x d → ∀ e, Rc sb Hb wt x e → (0 ≤ f.c x ∧ f.c x ≤ d) ∨ r ≤ d + e := by
    intro x d hx
    induction hx with
    | src x hx =>
      intro e he
      rcases hf.s x hx with a | a
      · exact Or.inl a
      · have h1 := hf.k x 0 a
        have h2 := fb x 0 a
        rcases mid hb he with c | c
        · have := h3 x (by omega) (by rw [fnd_c c.1]; exact c.1)
          rw [h2, fnd_c c.1] at this
          exact Or.inr (by omega)
        · exact Or.inr (by omega)
    | hop x d y k _ hy ih =>
      intro e he
      rcases ih (e + wt k) (Rc.hop y e x k he ((hfb x y k).1 hy)) with a | a
      · rcases hf.h x y k a.1 (fun e => by subst e; exact hy) hy with c | ⟨d', c1, c2⟩
        · exact Or.inl ⟨c.1, by omega⟩
        · have h1 := hf.k y d' c1
          have h2 := fb y d' c1
          have h4 := h1.2.1.nonneg
          rcases mid hb he with c | c
          · have := h3 y (by omega) (by rw [fnd_c c.1]; exact c.1)
            rw [h2, fnd_c c.1] at this
            exact Or.inr (by omega)
          · exact Or.inr (by omega)
      · exact Or.inr (by omega)
  have h0 : 0 ≤ fnd b y ∧ fnd b y ≤ 0 := by
    rcases hb.s y hs with a | a
    · rw [fnd_c a.1]; exact a
    · rw [fnd_K ?_ a]
      · omega
      · rcases Int.lt_or_le (b.c y) 0 with h | h
        · exact h
        · have := (hb.c y h).2.2.2.1
          rw [a] at this; cases this
  rcases main y d hy 0 (Rc.src y hs) with a | a
  · have := h3 y (by rw [fnd_c a.1]; exact a.1) h0.1
    rw [fnd_c a.1] at this
    omega
  · omega
end

theorem hop_fb {n : Nat} {E : List Ed} {D : Dm} (hE : EdOk n E) (hD : DmOk D) (x y k : Nat) : (y, k) ∈ hopI (hopsOn E D) D.S x ↔ (x, k) ∈ hopI (hopsBack E D) D.S y := by
  have hS := hD.1
  rw [mem_hopI_on, mem_hopI_back]
  constructor
  · rintro ⟨h1, h2, rfl⟩
    have hm := (hE _ (List.mem_of_getElem? (edAt_of h1))).2.2.1
    have hq := hD.2.2 (x % D.S) (edAt E k).m (Nat.mod_lt _ hS) hm
    refine ⟨h1, by rw [divS hq], x % D.S, Nat.mod_lt _ hS, by rw [modS hq], ?_⟩
    rw [h2, idS]
  · rintro ⟨h1, h2, q, hq, h3, rfl⟩
    refine ⟨h1, by rw [divS hq], ?_⟩
    rw [modS hq, h3, h2, idS]

/-- What is told in the end. -/
theorem both_law {E : List Ed} {D : Dm} {n v u : Nat} {r : Int} {sb : Nat → Prop} (hE : EdOk n E) (hD : DmOk D) (hsb : ∀ y, sb y ↔ ∃ q, q < D.S ∧ D.ac q = true ∧ y = u * D.S + q)
    (h1 : r = -1 ∨ ∃ x a b, Rc (fun y => y = v * D.S) (hopI (hopsOn E D) D.S) (wtE E) x a ∧ Rc sb (hopI (hopsBack E D) D.S) (wtE E) x b ∧ r = a + b)
    (h2 : ∀ y d, Rc (fun y => y = v * D.S) (hopI (hopsOn E D) D.S) (wtE E) y d → sb y → 0 ≤ r ∧ r ≤ d) : LeastW E D v u r := by
  have hS := hD.1
  have key : ∀ l d w, Wlk E v l u d w → D.ac (runD D 0 w) = true → 0 ≤ r ∧ r ≤ d := fun l d w hw ha =>
    h2 _ d (wlk_rc hE hD hw) ((hsb _).2 ⟨_, runD_lt hD hS w (hw.mode hE), ha, rfl⟩)
  rcases h1 with h | ⟨x, a, b, ha, hb, rfl⟩
  · refine Or.inl ⟨h, fun l d w hw => ?_⟩
    cases hac : D.ac (runD D 0 w) with
    | false => rfl
    | true => have := key l d w hw hac; omega
  · obtain ⟨y, hy, hr⟩ := rc_join (hop_fb hE hD) ha hb
    obtain ⟨q, hq, hac, rfl⟩ := (hsb y).1 hy
    obtain ⟨l, w, hw, hrun⟩ := rc_wlk hE hD hr
    rw [divS hq] at hw
    rw [modS hq] at hrun
    exact Or.inr ⟨hr.nonneg, ⟨l, w, hw, by rw [hrun]; exact hac⟩, fun l' d' w' hw' ha' => (key l' d' w' hw' ha').2⟩
end Go.Proofs.Ytekeondobdjppaa
