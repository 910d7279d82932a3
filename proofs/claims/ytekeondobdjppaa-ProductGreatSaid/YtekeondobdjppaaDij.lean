/- What a search finds: the plain law. -/
import Derived.Test.YtekeondobdjppaaSe
namespace Go.Proofs.Ytekeondobdjppaa
open Go.RowKit

/-- A way from a source: x is reached at cost d. -/
inductive Rc (src : Nat → Prop) (H : Nat → List (Nat × Nat)) (wt : Nat → Nat) : Nat → Int → Prop where
  | src (x : Nat) : src x → Rc src H wt x 0
  | hop (x : Nat) (d : Int) (y k : Nat) : Rc src H wt x d → (y, k) ∈ H x → Rc src H wt y (d + wt k)
theorem Rc.nonneg {src : Nat → Prop} {H : Nat → List (Nat × Nat)} {wt : Nat → Nat} {x : Nat} {d : Int} (h : Rc src H wt x d) : 0 ≤ d := by
  induction h with
  | src x h => exact Int.le_refl _
  | hop x d y k _ _ ih => omega

/-- How a spot was found, at cost d. -/
def Tr (src : Nat → Prop) (H : Nat → List (Nat × Nat)) (wt : Nat → Nat) (t : Nat → Nat) (st : St) (x : Nat) (d : Int) : Prop :=
  (st.f x = -1 ∧ src x ∧ d = 0) ∨ ∃ x' k : Nat, st.f x = x' ∧ st.e x = k ∧ 0 ≤ st.c x' ∧ (x, k) ∈ H x' ∧ d = st.c x' + wt k ∧ (0 ≤ st.c x → t x' < t x)

/-- The search's invariant, while the hops 'done' of the spot 'now' are done (none of others is left). -/
structure Inv (src : Nat → Prop) (H : Nat → List (Nat × Nat)) (wt : Nat → Nat) (now : Nat) (done : List (Nat × Nat)) (t : Nat → Nat) (T : Nat) (st : St) (l : Int) : Prop where
  c : ∀ x, 0 ≤ st.c x → Rc src H wt x (st.c x) ∧ st.c x ≤ l ∧ t x < T ∧ st.K x = none ∧ Tr src H wt t st x (st.c x)
  k : ∀ x d, st.K x = some d → l ≤ d ∧ Rc src H wt x d ∧ Tr src H wt t st x d
  s : ∀ x, src x → (0 ≤ st.c x ∧ st.c x ≤ 0) ∨ st.K x = some 0
  h : ∀ x y k, 0 ≤ st.c x → (x = now → (y, k) ∈ done) → (y, k) ∈ H x → (0 ≤ st.c y ∧ st.c y ≤ st.c x + wt k) ∨ ∃ d, st.K y = some d ∧ d ≤ st.c x + wt k

theorem relax_inv {src : Nat → Prop} {H : Nat → List (Nat × Nat)} {E : List Ed} {id : Nat} {done : List (Nat × Nat)} {t : Nat → Nat} {T : Nat} {st : St} {key : Int} (h : Inv src H (fun k => (edAt E k).c) id done t T st key) (hid : st.c id = key) (h0 : 0 ≤ key) {y k : Nat} (hy : (y, k) ∈ H id) :
    Inv src H (fun k => (edAt E k).c) id (done ++ [(y, k)]) t T (relax1 E id key st (y, k)) key := by
  have hidc : 0 ≤ st.c id := by omega
  by_cases hc : st.c y < 0 ∧ putB st.K y (key + (edAt E k).c) = true
  · obtain ⟨hcy, hp⟩ := hc
    have hK : putK st.K y (key + (edAt E k).c) = updK st.K y (key + (edAt E k).c) := by simp [putK, hp]
    have hr : relax1 E id key st (y, k) = ⟨st.c, updF st.e y k, updF st.f y id, updK st.K y (key + (edAt E k).c)⟩ := by simp [relax1, hcy, hp, hK]
    rw [hr]
    have hle : ∀ d, st.K y = some d → key + (edAt E k).c < d := fun d hd => by simpa [putB, hd] using hp
    refine ⟨fun x hx => ?_, fun x d hd => ?_, fun x hx => ?_, fun x y' k' hx hdn hm => ?_⟩
    · have hxy : x ≠ y := fun e => by subst e; simp only at hx; omega
      obtain ⟨a1, a2, a3, a4, a5⟩ := h.c x hx
      refine ⟨a1, a2, a3, by simp [updK, hxy, a4], ?_⟩
      simpa [Tr, updF, hxy] using a5
    · by_cases hxy : x = y
      · subst hxy
        have hd' : key + (edAt E k).c = d := by simpa [updK] using hd
        subst hd'
        refine ⟨by omega, hid ▸ Rc.hop id (st.c id) x k (h.c id hidc).1 hy, ?_⟩
        refine Or.inr ⟨id, k, by simp [updF], by simp [updF], hidc, hy, by simp [hid], fun hx => ?_⟩
        simp only at hx
        omega
      · have hd' : st.K x = some d := by simpa [updK, hxy] using hd
        obtain ⟨a1, a2, a3⟩ := h.k x d hd'
        exact ⟨a1, a2, by simpa [Tr, updF, hxy] using a3⟩
    · rcases h.s x hx with a | a
      · exact Or.inl a
      · by_cases hxy : x = y
        · subst hxy
          have := hle 0 a
          omega
        · exact Or.inr (by simp [updK, hxy, a])
    · have key1 : (0 ≤ st.c y' ∧ st.c y' ≤ st.c x + (edAt E k').c) ∨ (∃ d, st.K y' = some d ∧ d ≤ st.c x + (edAt E k').c) ∨ (x = id ∧ y' = y ∧ k' = k) := by
        by_cases hxi : x = id
        · have := hdn hxi
          rcases List.mem_append.1 this with h1 | h1
          · rcases h.h x y' k' hx (fun _ => h1) hm with a | a
            · exact Or.inl a
            · exact Or.inr (Or.inl a)
          · simp only [List.mem_singleton, Prod.mk.injEq] at h1
            exact Or.inr (Or.inr ⟨hxi, h1.1, h1.2⟩)
        · rcases h.h x y' k' hx (fun e => absurd e hxi) hm with a | a
          · exact Or.inl a
          · exact Or.inr (Or.inl a)
      rcases key1 with a | ⟨d, a1, a2⟩ | ⟨rfl, rfl, rfl⟩
      · exact Or.inl a
      · by_cases hyy : y' = y
        · subst hyy
          have := hle d a1
          exact Or.inr ⟨key + (edAt E k).c, by simp [updK], by show _ ≤ st.c x + _; omega⟩
        · exact Or.inr ⟨d, by simp [updK, hyy, a1], a2⟩
      · exact Or.inr ⟨st.c x + (edAt E k').c, by simp [updK, hid], Int.le_refl _⟩
  · have hr : relax1 E id key st (y, k) = st := by simp only [relax1]; rw [if_neg hc]
    rw [hr]
    refine ⟨h.c, h.k, h.s, fun x y' k' hx hdn hm => ?_⟩
    by_cases hxi : x = id
    · subst hxi
      rcases List.mem_append.1 (hdn rfl) with h1 | h1
      · exact h.h x y' k' hx (fun _ => h1) hm
      · simp only [List.mem_singleton, Prod.mk.injEq] at h1
        obtain ⟨rfl, rfl⟩ := h1
        by_cases hcy : st.c y' < 0
        · have hp : putB st.K y' (key + (edAt E k').c) = false := by
            cases hp : putB st.K y' (key + (edAt E k').c) with
            | false => rfl
            | true => exact absurd ⟨hcy, hp⟩ hc
          cases hk : st.K y' with
          | none => simp [putB, hk] at hp
          | some d =>
            have : d ≤ key + (edAt E k').c := by simpa [putB, hk] using hp
            exact Or.inr ⟨d, rfl, by simp only [hid]; omega⟩
        · refine Or.inl ⟨by omega, ?_⟩
          have := (h.c y' (by omega)).2.1
          simp only [hid]
          omega
    · exact h.h x y' k' hx (fun e => absurd e hxi) hm

theorem settle_inv {src : Nat → Prop} {H : Nat → List (Nat × Nat)} {wt : Nat → Nat} {now : Nat} {t : Nat → Nat} {T : Nat} {st : St} {l : Int} (h : Inv src H wt now (H now) t T st l) {id : Nat} {key : Int} (hk : st.K id = some key) (hmin : ∀ id' k', st.K id' = some k' → key ≤ k') :
    Inv src H wt id [] (fun x => if x = id then T else t x) (T + 1) (settle id key st) key := by
  have hcid : st.c id < 0 := by
    rcases Int.lt_or_le (st.c id) 0 with h1 | h1
    · exact h1
    · have := (h.c id h1).2.2.2.1
      rw [hk] at this
      cases this
  have hlk := (h.k id key hk).1
  have tr : ∀ x d, Tr src H wt t st x d → (x ≠ id → Tr src H wt (fun x => if x = id then T else t x) (settle id key st) x d) ∧ (x = id → Tr src H wt (fun x => if x = id then T else t x) (settle id key st) x d) := by
    intro x d hx
    rcases hx with a | ⟨x', k, a1, a2, a3, a4, a5, a6⟩
    · exact ⟨fun _ => Or.inl a, fun _ => Or.inl a⟩
    · have hne : x' ≠ id := fun e => by subst e; omega
      have ht := (h.c x' a3).2.2.1
      refine ⟨fun hxi => Or.inr ⟨x', k, a1, a2, by simp [settle, updF, hne, a3], a4, by simp [settle, updF, hne, a5], fun hh => ?_⟩, fun hxi => Or.inr ⟨x', k, a1, a2, by simp [settle, updF, hne, a3], a4, by simp [settle, updF, hne, a5], fun hh => ?_⟩⟩
      · have : 0 ≤ st.c x := by simpa [settle, updF, hxi] using hh
        simpa [hne, hxi] using a6 this
      · simpa [hne, hxi] using ht
  refine ⟨fun x hx => ?_, fun x d hd => ?_, fun x hx => ?_, fun x y k hx hdn hm => ?_⟩
  · by_cases hxi : x = id
    · subst hxi
      obtain ⟨a1, a2, a3⟩ := h.k x key hk
      have e : (settle x key st).c x = key := by simp [settle, updF]
      rw [e]
      exact ⟨a2, Int.le_refl _, by simp, by simp [settle, delK], (tr x key a3).2 rfl⟩
    · have e : (settle id key st).c x = st.c x := by simp [settle, updF, hxi]
      rw [e] at hx ⊢
      obtain ⟨a1, a2, a3, a4, a5⟩ := h.c x hx
      exact ⟨a1, by omega, by simp only [hxi, if_false]; omega, by simp [settle, delK, hxi, a4], (tr x _ a5).1 hxi⟩
  · have hxi : x ≠ id := fun e => by subst e; simp [settle, delK] at hd
    have hd' : st.K x = some d := by simpa [settle, delK, hxi] using hd
    obtain ⟨a1, a2, a3⟩ := h.k x d hd'
    exact ⟨hmin x d hd', a2, (tr x d a3).1 hxi⟩
  · rcases h.s x hx with a | a
    · have hxi : x ≠ id := fun e => by subst e; omega
      exact Or.inl (by simpa [settle, updF, hxi] using a)
    · by_cases hxi : x = id
      · subst hxi
        rw [hk] at a
        obtain rfl : key = 0 := Option.some.inj a
        exact Or.inl (by simp [settle, updF])
      · exact Or.inr (by simp [settle, delK, hxi, a])
  · by_cases hxi : x = id
    · exact absurd (hdn hxi) (by simp)
    · have e : (settle id key st).c x = st.c x := by simp [settle, updF, hxi]
      rw [e] at hx ⊢
      rcases h.h x y k hx (fun e2 => by subst e2; exact hm) hm with a | ⟨d, a1, a2⟩
      · have hyi : y ≠ id := fun e => by subst e; omega
        exact Or.inl (by simpa [settle, updF, hyi] using a)
      · by_cases hyi : y = id
        · subst hyi
          rw [hk] at a1
          obtain rfl : key = d := Option.some.inj a1
          have := (h.k y key hk).2.1.nonneg
          exact Or.inl (by simp [settle, updF]; omega)
        · exact Or.inr ⟨d, by simp [settle, delK, hyi, a1], a2⟩

theorem snocInd {α : Type} {P : List α → Prop} (h0 : P []) (hs : ∀ l x, P l → P (l ++ [x])) (l : List α) : P l := by
  rw [← List.reverse_reverse l]
  induction l.reverse with
  | nil => exact h0
  | cons x l ih => rw [List.reverse_cons]; exact hs _ _ ih
/-- One step more. -/
theorem step_inv {src : Nat → Prop} {H : Nat → List (Nat × Nat)} {E : List Ed} {now : Nat} {t : Nat → Nat} {T : Nat} {st : St} {l : Int} (h : Inv src H (fun k => (edAt E k).c) now (H now) t T st l) {id S : Nat} {key : Int} {hs : List Hop} (hH : H id = hs.map (hopId S)) (hk : st.K id = some key) (hmin : ∀ id' k', st.K id' = some k' → key ≤ k') :
    Inv src H (fun k => (edAt E k).c) id (H id) (fun x => if x = id then T else t x) (T + 1) (stepSt E S id key hs st) key ∧ (∀ x, (stepSt E S id key hs st).c x = if x = id then key else st.c x) := by
  have h0 := settle_inv h hk hmin
  have hk0 : 0 ≤ key := (h.k id key hk).2.1.nonneg
  have main : ∀ (l1 l2 : List Hop), hs = l1 ++ l2 → Inv src H (fun k => (edAt E k).c) id (l1.map (hopId S)) (fun x => if x = id then T else t x) (T + 1) (stepSt E S id key l1 st) key ∧ (∀ x, (stepSt E S id key l1 st).c x = if x = id then key else st.c x) := by
    intro l1
    refine snocInd (P := fun l1 => ∀ l2 : List Hop, hs = l1 ++ l2 → Inv src H (fun k => (edAt E k).c) id (l1.map (hopId S)) (fun x => if x = id then T else t x) (T + 1) (stepSt E S id key l1 st) key ∧ (∀ x, (stepSt E S id key l1 st).c x = if x = id then key else st.c x)) ?_ ?_ l1
    · intro l2 _; exact ⟨h0, fun x => by simp [stepSt_nil, settle, updF]⟩
    · intro l1 x ih l2 e
      obtain ⟨i1, i2⟩ := ih (x :: l2) (by simp [e])
      rw [stepSt_snoc, List.map_append]
      have hm : hopId S x ∈ H id := by rw [hH, e]; simp
      refine ⟨relax_inv i1 (by rw [i2]; simp) hk0 (y := (hopId S x).1) (k := (hopId S x).2) hm, fun z => ?_⟩
      have : (relax1 E id key (stepSt E S id key l1 st) (hopId S x)).c = (stepSt E S id key l1 st).c := by simp only [relax1]; split <;> rfl
      rw [this, i2]
  have := main hs [] (by simp)
  rw [hH]
  exact this

/-- When nothing waits all is found. -/
theorem end_inv {src : Nat → Prop} {H : Nat → List (Nat × Nat)} {wt : Nat → Nat} {now : Nat} {t : Nat → Nat} {T : Nat} {st : St} {l : Int} (h : Inv src H wt now (H now) t T st l) (hK : ∀ x, st.K x = none) {x : Nat} {d : Int} (hr : Rc src H wt x d) : 0 ≤ st.c x ∧ st.c x ≤ d := by
  induction hr with
  | src x hx =>
    rcases h.s x hx with a | a
    · exact a
    · rw [hK] at a; cases a
  | hop x d y k _ hy ih =>
    rcases h.h x y k ih.1 (fun e => by subst e; exact hy) hy with a | ⟨d', a, _⟩
    · exact ⟨a.1, by omega⟩
    · rw [hK] at a; cases a
end Go.Proofs.Ytekeondobdjppaa
