/- All spots found: walk. -/
import Derived.Test.YtekeondobdjppaaStepOn
import Derived.Test.YtekeondobdjppaaStepBack
import Derived.Test.YtekeondobdjppaaDijB
import Derived.Deep.LoopGhost
namespace Go.Proofs.Ytekeondobdjppaa
open Go.RowKit

/-- What a step does, by whatever hops. -/
def StepsC (fn : Value) (hp : Nat → Nat → List Hop) (Fg : List Nat) (g n : Nat) (E : List Ed) (D : Dm) : Prop := ∀ (w : World) (sp cb eb fb q : Nat) (Fq : List Nat) (st : St) (l : Int), Se w sp cb eb fb q Fq Fg fn g n E D st l → (∀ id k, st.K id = some k → 0 ≤ k ∧ k ≤ 4000000000000000000) →
  Calls Try.prog 61 #[.pointer (some ⟨sp, 0, none⟩)] w fun e w' =>
    (e = .returned (.tuple #[.int .i64 0, .bool false]) ∧ (∀ id, st.K id = none) ∧ w = w') ∨
    ∃ (id : Nat) (key : Int), e = .returned (.tuple #[.int .i64 id, .bool true]) ∧ id < n * D.S ∧ st.K id = some key ∧ (∀ id' k', st.K id' = some k' → key < k' ∨ (key = k' ∧ id ≤ id')) ∧
      ∃ Fq', Se w' sp cb eb fb q Fq' Fg fn g n E D (stepSt E D.S id key (hp (id / D.S) (id % D.S)) st) key ∧ Mod (seF sp cb eb fb Fq) w w' ∧ ∀ b ∈ Fq', b ∈ Fq ∨ w.heap.size ≤ b
theorem steps_on {Fg : List Nat} {g n : Nat} {E : List Ed} {D : Dm} (hE : E.length ≤ 1000) : StepsC (.func (.func 45) #[] #[]) (hopsOn E D) Fg g n E D := fun _ _ _ _ _ _ _ _ _ h hK => stepOn_calls hE h hK
theorem steps_back {Fg : List Nat} {g n : Nat} {E : List Ed} {D : Dm} (hE : E.length ≤ 1000) : StepsC (.func (.func 58) #[] #[]) (hopsBack E D) Fg g n E D := fun _ _ _ _ _ _ _ _ _ h hK => stepBack_calls hE h hK

/-- A search under way: what it has found is right, within bounds. -/
structure On (src : Nat → Prop) (hp : Nat → Nat → List Hop) (n : Nat) (E : List Ed) (D : Dm) (T : Nat) (st : St) (l : Int) : Prop where
  inv : ∃ now t, Inv src (hopI hp D.S) (wtE E) now (hopI hp D.S now) t T st l ∧ Bd (n * D.S) t T st
  neg : ∀ x, st.c x < 0 → st.c x = -1
theorem On.le {src : Nat → Prop} {hp : Nat → Nat → List Hop} {n : Nat} {E : List Ed} {D : Dm} {T : Nat} {st : St} {l : Int} (h : On src hp n E D T st l) : T ≤ n * D.S := by
  obtain ⟨now, t, _, hb⟩ := h.inv
  exact hb.le
theorem On.K {src : Nat → Prop} {hp : Nat → Nat → List Hop} {n : Nat} {E : List Ed} {D : Dm} {T : Nat} {st : St} {l : Int} (h : On src hp n E D T st l) (hN : n * D.S ≤ 120000) : ∀ id k, st.K id = some k → 0 ≤ k ∧ k ≤ 4000000000000000000 := by
  obtain ⟨now, t, hi, hb⟩ := h.inv
  intro id k hk
  have h1 := (hi.k id k hk).2.1.nonneg
  have h2 := (hb.k id k hk).2
  have h3 := hb.le
  omega
theorem On.step {src : Nat → Prop} {hp : Nat → Nat → List Hop} {n : Nat} {E : List Ed} {D : Dm} {T : Nat} {st : St} {l : Int} (h : On src hp n E D T st l) (hD : DmOk D) (hE : EdOk n E) (hok : ∀ v s, s < D.S → ∀ x ∈ hp v s, HopOk n E D x) {id : Nat} {key : Int} (hk : st.K id = some key) (hmin : ∀ id' k', st.K id' = some k' → key < k' ∨ (key = k' ∧ id ≤ id')) :
    On src hp n E D (T + 1) (stepSt E D.S id key (hp (id / D.S) (id % D.S)) st) key := by
  obtain ⟨now, t, hi, hb⟩ := h.inv
  have hmin' : ∀ id' k', st.K id' = some k' → key ≤ k' := fun id' k' e => by have := hmin id' k' e; omega
  have h0 := (hi.k id key hk).2.1.nonneg
  have hc : st.c id < 0 := by
    rcases Int.lt_or_le (st.c id) 0 with h1 | h1
    · exact h1
    · have := (hi.c id h1).2.2.2.1
      rw [hk] at this
      cases this
  have s1 := (step_inv (E := E) hi (S := D.S) (hs := hp (id / D.S) (id % D.S)) rfl hk hmin').1
  have hlt : ∀ x ∈ hp (id / D.S) (id % D.S), (hopId D.S x).1 < n * D.S := fun x hx => by
    obtain ⟨a1, a2, a3⟩ := hok _ _ (Nat.mod_lt _ hD.1) x hx
    have h1 : (x.1 + 1) * D.S ≤ n * D.S := Nat.mul_le_mul_right _ a1
    rw [Nat.add_mul] at h1
    simp only [hopId]
    omega
  have hcost : ∀ k, (edAt E k).c ≤ 2147483647 := fun k => by
    rcases Nat.lt_or_ge k E.length with hk | hk
    · exact (hE _ (List.mem_of_getElem? (edAt_of hk))).2.2.2
    · simp [edAt, List.getD_eq_getElem?_getD, List.getElem?_eq_none hk]
  have s2 := step_bd hb (S := D.S) (hs := hp (id / D.S) (id % D.S)) h0 hc hk hlt hcost
  refine ⟨⟨id, _, s1, s2⟩, fun x hx => ?_⟩
  rw [stepSt_c] at hx ⊢
  simp only [updF] at hx ⊢
  split
  · rename_i e; rw [if_pos e] at hx; omega
  · rename_i e; rw [if_neg e] at hx; exact h.neg x hx
theorem On.fnd {src : Nat → Prop} {hp : Nat → Nat → List Hop} {n : Nat} {E : List Ed} {D : Dm} {T : Nat} {st : St} {l : Int} (h : On src hp n E D T st l) (hN : n * D.S ≤ 120000) (hK : ∀ id, st.K id = none) : Fnd src (hopI hp D.S) (wtE E) (n * D.S) st := by
  obtain ⟨now, t, hi, hb⟩ := h.inv
  refine ⟨fun x hx => (hb.c x hx).1, fun x hx => (hi.c x hx).1, fun x d hr => end_inv hi hK hr, fun x => ?_, h.neg, t, T, hb.le, fun x hx => ⟨(hi.c x hx).2.2.1, (hi.c x hx).2.2.2.2⟩⟩
  rcases Int.lt_or_le (st.c x) 0 with h1 | h1
  · omega
  · have h2 := (hb.c x h1).2
    have h3 := (hi.c x h1).2.2.1
    have h4 := hb.le
    omega
/-- At the begin. -/
theorem On.zero {hp : Nat → Nat → List Hop} {n : Nat} {E : List Ed} {D : Dm} {src : Nat → Prop} {K : Nat → Option Int} (hK : ∀ id k, K id = some k → k = 0 ∧ src id ∧ id < n * D.S) (hs : ∀ x, src x → K x = some 0) : On src hp n E D 0 ⟨fun _ => -1, fun _ => -1, fun _ => -1, K⟩ 0 := by
  refine ⟨⟨0, fun _ => 0, ⟨fun x hx => ?_, fun x d hd => ?_, fun x hx => Or.inr (hs x hx), fun x y k hx => ?_⟩, ⟨fun x hx => ?_, fun x d hd => ?_, cnt_neg _⟩⟩, fun x _ => rfl⟩
  · simp only at hx; omega
  · obtain ⟨rfl, h2, h3⟩ := hK x d hd
    exact ⟨Int.le_refl _, .src x h2, Or.inl ⟨rfl, h2, rfl⟩⟩
  · simp only at hx; omega
  · simp only at hx; omega
  · obtain ⟨rfl, h2, h3⟩ := hK x d hd
    exact ⟨h3, by simp⟩

set_option maxRecDepth 100000 in
set_option maxHeartbeats 1000000 in
theorem all_calls {w : World} {sp cb eb fb q : Nat} {Fq Fg : List Nat} {fn : Value} {g n : Nat} {E : List Ed} {D : Dm} {st : St} {l : Int} {src : Nat → Prop} {hp : Nat → Nat → List Hop} {T : Nat}
    (hstep : StepsC fn hp Fg g n E D) (hok : ∀ v s, s < D.S → ∀ x ∈ hp v s, HopOk n E D x) (hN : n * D.S ≤ 120000) (h : Se w sp cb eb fb q Fq Fg fn g n E D st l) (hi : On src hp n E D T st l) :
    Calls Try.prog 46 #[.pointer (some ⟨sp, 0, none⟩)] w fun e w' => e = .returned (.tuple #[]) ∧
      ∃ Fq' st' l' T', Se w' sp cb eb fb q Fq' Fg fn g n E D st' l' ∧ On src hp n E D T' st' l' ∧ (∀ id, st'.K id = none) ∧ Mod (seF sp cb eb fb Fq) w w' ∧ ∀ b ∈ Fq', b ∈ Fq ∨ w.heap.size ≤ b := by
  have HS := Lib.hid h
  have HI := Lib.hid hi
  have HST := Lib.hid hstep
  have HOK := Lib.hid hok
  clear h hi hstep hok
  obtain ⟨wo, rfl⟩ : ∃ wo : World, wo = w := ⟨_, rfl⟩
  go_enter Try.func46, Try.ntmps46
  go_wp2_with fail
  go_loopg [] (n * D.S - T) (fun k wr => ∃ (T' : Nat) (Fq' : List Nat) (st' : St) (l' : Int), k = n * D.S - T' ∧ Hid (Se wr sp cb eb fb q Fq' Fg fn g n E D st' l') ∧ Hid (On src hp n E D T' st' l') ∧ Hid (Mod (seF sp cb eb fb Fq) wo wr) ∧ Hid (∀ b ∈ Fq', b ∈ Fq ∨ wo.heap.size ≤ b))
  case atStart => exact ⟨T, Fq, st, l, rfl, HS, HI, Mod.refl _ _, fun b hb => Or.inl hb⟩
  case round =>
    obtain ⟨T', Fq', st', l', rfl, HS', HI', HM, HF⟩ := hrel
    clear HS HI
    go_wp2_with fail
    refine (HST.out wr sp cb eb fb q Fq' st' l' HS'.out (HI'.out.K hN)).mono ?_
    rintro e w1 (⟨rfl, hn, rfl⟩ | ⟨id, key, rfl, hid, hk, hmin, Fq1, hs1, hm1, hF1⟩)
    · have HNN := Lib.hid hn
      clear hn
      go_wp2_with fail
      refine bodyPost_ret (v := .tuple #[]) (by simp [results, Try.results46, go_sem]) rfl ?_
      exact ⟨rfl, Fq', st', l', T', HS'.out, HI'.out, HNN.out, HM.out, HF.out⟩
    · have HI2 := Lib.hid (HI'.out.step hs1.g.2.2.2.2.1 hs1.g.2.2.2.1 HOK.out hk hmin)
      have HS2 := Lib.hid hs1
      have HM2 : Hid (Mod (seF sp cb eb fb Fq) wo w1) := HM.out.then hm1 (fun b hb => by
        rcases mem_seF.1 hb with rfl | rfl | rfl | rfl | hb
        · exact Or.inl (by simp [seF])
        · exact Or.inl (by simp [seF])
        · exact Or.inl (by simp [seF])
        · exact Or.inl (by simp [seF])
        · rcases HF.out b hb with h | h
          · exact Or.inl (by simp [seF, h])
          · exact Or.inr h)
      have HF2 : Hid (∀ b ∈ Fq1, b ∈ Fq ∨ wo.heap.size ≤ b) := fun b hb => by
        rcases hF1 b hb with h | h
        · exact HF.out b h
        · have := HM.out.size
          exact Or.inr (by omega)
      have hle := HI2.out.le
      clear hs1 hm1 hF1 hk hmin HS' HI' HM HF
      go_wp2_with fail
      go_roundg (n * D.S - (T' + 1))
      case measure => omega
      case rel => exact ⟨T' + 1, Fq1, _, key, rfl, HS2, HI2, HM2, HF2⟩
end Go.Proofs.Ytekeondobdjppaa
