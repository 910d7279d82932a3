/- The chapter's example: walk of law9.known. -/
import Derived.Test.YtekeondobdjppaaRun
namespace Go.Proofs.Ytekeondobdjppaa
open Go.RowKit

def kE : List Ed := [⟨0, 1, 0, 4⟩]
def oneD : Dm := ⟨1, fun _ _ => 0, fun _ => true⟩
theorem oneD_ok : DmOk oneD := ⟨by decide, by decide, fun s m _ _ => by show 0 < 1; omega⟩
theorem kE_ok : EdOk 2 kE := fun e he => by
  simp only [kE, List.mem_singleton] at he
  subst he
  exact ⟨by decide, by decide, by decide, by decide⟩
theorem kE_len : kE.length = 1 := rfl
theorem kE_at {k : Nat} (h : k < kE.length) : k = 0 ∧ edAt kE k = ⟨0, 1, 0, 4⟩ := by
  rw [kE_len] at h
  obtain rfl : k = 0 := by omega
  exact ⟨rfl, rfl⟩
theorem kE_one {l : List Nat} {u : Nat} {d : Int} {w : List Nat} (h : Wlk kE 1 l u d w) : l = [] ∧ u = 1 ∧ d = 0 ∧ w = [] := by
  induction h with
  | nil => exact ⟨rfl, rfl, rfl, rfl⟩
  | snoc l u d w k h1 h2 h3 ih =>
    obtain ⟨rfl, e⟩ := kE_at h2
    rw [e] at h3
    obtain ⟨-, rfl, -, -⟩ := ih
    simp at h3
theorem kE_two {l : List Nat} {u : Nat} {d : Int} {w : List Nat} (h : Wlk kE 0 l u d w) : (u = 0 ∧ l = [] ∧ d = 0) ∨ (u = 1 ∧ l = [0] ∧ d = 4) := by
  induction h with
  | nil => exact Or.inl ⟨rfl, rfl, rfl⟩
  | snoc l u d w k h1 h2 h3 ih =>
    obtain ⟨rfl, e⟩ := kE_at h2
    rw [e] at h3
    simp only at h3
    subst h3
    rcases ih with ⟨_, rfl, rfl⟩ | ⟨h, _⟩
    · rw [e]; exact Or.inr ⟨rfl, rfl, rfl⟩
    · omega
theorem kE_w1 : Wlk kE 1 [] 1 0 [] := .nil
theorem kE_w2 : Wlk kE 0 [0] 1 4 [0] := .snoc [] 0 0 [] 0 .nil (by decide) rfl
theorem kE_least1 {r : Int} (h : LeastW kE oneD 1 1 r) : r = 0 := by
  rcases h with ⟨_, h⟩ | ⟨_, ⟨l, w, h, _⟩, _⟩
  · have := h _ _ _ kE_w1; cases this
  · exact (kE_one h).2.2.1
theorem kE_least2 {r : Int} (h : LeastW kE oneD 0 1 r) : r = 4 := by
  rcases h with ⟨_, h⟩ | ⟨_, ⟨l, w, h, _⟩, _⟩
  · have := h _ _ _ kE_w2; cases this
  · rcases kE_two h with h | h
    · omega
    · exact h.2.2

set_option maxRecDepth 100000 in
set_option maxHeartbeats 2000000 in
theorem known_calls (w : World) : Calls Try.prog 17 #[] w fun e w' => e = .returned (.bool true) ∧ Mod [] w w' := by
  go_enter Try.func17, Try.ntmps17
  go_wp2_with fail
  have hE := Blk.new' (w := w) #[.int .i64 0, .int .i64 1, .int .i64 0, .int .i64 4] 44 rfl
  have hM := (Mod.refl [] w).alloc (.cells #[.int .i64 0, .int .i64 1, .int .i64 0, .int .i64 4] 44)
  have s0 := alz w (.cells #[.int .i64 0, .int .i64 1, .int .i64 0, .int .i64 4] 44)
  generalize w.alloc (.cells #[.int .i64 0, .int .i64 1, .int .i64 0, .int .i64 4] 44) = W1 at hE hM s0 ⊢
  have hN := Blk.new' (w := W1) #[.int .i64 2, .slice (some ⟨w.heap.size, 0, none⟩) 1 1] 28 s0
  have hE := hE.alloc (.cells #[.int .i64 2, .slice (some ⟨w.heap.size, 0, none⟩) 1 1] 28)
  have hM := hM.alloc (.cells #[.int .i64 2, .slice (some ⟨w.heap.size, 0, none⟩) 1 1] 28)
  have s1 := alz W1 (.cells #[.int .i64 2, .slice (some ⟨w.heap.size, 0, none⟩) 1 1] 28)
  rw [s0] at s1
  clear s0
  generalize W1.alloc (.cells #[.int .i64 2, .slice (some ⟨w.heap.size, 0, none⟩) 1 1] 28) = W2 at hE hN hM s1 ⊢
  have hX := Blk.new' (w := W2) #[.int .i64 0, .int .i64 0, .int .i64 0, .int .i64 0, .int .i64 0] 64 s1
  have hE := hE.alloc (.cells #[.int .i64 0, .int .i64 0, .int .i64 0, .int .i64 0, .int .i64 0] 64)
  have hN := hN.alloc (.cells #[.int .i64 0, .int .i64 0, .int .i64 0, .int .i64 0, .int .i64 0] 64)
  have hM := hM.alloc (.cells #[.int .i64 0, .int .i64 0, .int .i64 0, .int .i64 0, .int .i64 0] 64)
  have s2 := alz W2 (.cells #[.int .i64 0, .int .i64 0, .int .i64 0, .int .i64 0, .int .i64 0] 64)
  rw [s1] at s2
  clear s1
  generalize W2.alloc (.cells #[.int .i64 0, .int .i64 0, .int .i64 0, .int .i64 0, .int .i64 0] 64) = W3 at hE hN hX hM s2 ⊢
  have hA := Blk.new' (w := W3) #[.bool true] 4 s2
  have hE := hE.alloc (.cells #[.bool true] 4)
  have hN := hN.alloc (.cells #[.bool true] 4)
  have hX := hX.alloc (.cells #[.bool true] 4)
  have hM := hM.alloc (.cells #[.bool true] 4)
  have s3 := alz W3 (.cells #[.bool true] 4)
  rw [s2] at s3
  clear s2
  generalize W3.alloc (.cells #[.bool true] 4) = W4 at hE hN hX hA hM s3 ⊢
  have hF := Blk.new' (w := W4) #[.slice (some ⟨w.heap.size + 1 + 1, 0, none⟩) 1 1, .slice (some ⟨w.heap.size + 1 + 1 + 1, 0, none⟩) 1 1] 33 s3
  have hE := hE.alloc (.cells #[.slice (some ⟨w.heap.size + 1 + 1, 0, none⟩) 1 1, .slice (some ⟨w.heap.size + 1 + 1 + 1, 0, none⟩) 1 1] 33)
  have hN := hN.alloc (.cells #[.slice (some ⟨w.heap.size + 1 + 1, 0, none⟩) 1 1, .slice (some ⟨w.heap.size + 1 + 1 + 1, 0, none⟩) 1 1] 33)
  have hX := hX.alloc (.cells #[.slice (some ⟨w.heap.size + 1 + 1, 0, none⟩) 1 1, .slice (some ⟨w.heap.size + 1 + 1 + 1, 0, none⟩) 1 1] 33)
  have hA := hA.alloc (.cells #[.slice (some ⟨w.heap.size + 1 + 1, 0, none⟩) 1 1, .slice (some ⟨w.heap.size + 1 + 1 + 1, 0, none⟩) 1 1] 33)
  have hM := hM.alloc (.cells #[.slice (some ⟨w.heap.size + 1 + 1, 0, none⟩) 1 1, .slice (some ⟨w.heap.size + 1 + 1 + 1, 0, none⟩) 1 1] 33)
  generalize W4.alloc (.cells #[.slice (some ⟨w.heap.size + 1 + 1, 0, none⟩) 1 1, .slice (some ⟨w.heap.size + 1 + 1 + 1, 0, none⟩) 1 1] 33) = W5 at hE hN hX hA hF hM ⊢
  clear s3
  obtain ⟨b4, e4⟩ : ∃ b, w.heap.size + 1 + 1 + 1 + 1 = b := ⟨_, rfl⟩
  obtain ⟨b3, e3⟩ : ∃ b, w.heap.size + 1 + 1 + 1 = b := ⟨_, rfl⟩
  obtain ⟨b2, e2⟩ : ∃ b, w.heap.size + 1 + 1 = b := ⟨_, rfl⟩
  obtain ⟨b1, e1⟩ : ∃ b, w.heap.size + 1 = b := ⟨_, rfl⟩
  rw [e4] at hF
  rw [e3] at hA hF
  rw [e2] at hX hF
  rw [e1] at hN
  simp only [e4]
  simp only [e3]
  simp only [e2]
  simp only [e1]
  generalize w.heap.size = b0 at hE hN ⊢
  have hG : ∀ W, Mod [] W5 W → Given W [b0, b2, b3] 2 (.slice (some ⟨b0, 0, none⟩) 1 1) kE (.slice (some ⟨b2, 0, none⟩) 1 1) (.slice (some ⟨b3, 0, none⟩) 1 1) oneD := fun W hW => by
    have g1 := hE.mod0 hW
    have g2 := hX.mod0 hW
    have g3 := hA.mod0 hW
    refine ⟨by decide, by decide, by decide, kE_ok, oneD_ok, Or.inr ⟨b0, 0, 1, rfl, by decide, by decide, by simp, g1.lt, fun j u hu => ?_⟩, Or.inr ⟨b2, 0, 1, rfl, by decide, by decide, by simp, g2.lt, fun j u hu => ?_⟩, Or.inr ⟨b3, 0, 1, rfl, by decide, by decide, by simp, g3.lt, fun j u hu => ?_⟩⟩
    · rw [Nat.zero_add]; exact g1.get hu
    · rw [Nat.zero_add]; exact g2.get hu
    · rw [Nat.zero_add]; exact g3.get hu
  have HG := Lib.hid hG
  have HN := Lib.hid hN
  have HF := Lib.hid hF
  have HM := Lib.hid hM
  clear hG hE hN hX hA hF hM e1 e2 e3 e4
  refine (route_calls (n := 2) (v := 1) (tt := 1) (HG.out _ (Mod.refl _ _)) 1 1 rfl (by decide) rfl (by decide)).mono ?_
  rintro e w1 ⟨hr, hm1⟩
  rcases hr with ⟨_, h⟩ | ⟨r, u, l, wd, rfl, _, _, hl, hw, _, _, ho, hf⟩
  · have := kE_least1 h; omega
  obtain rfl := kE_least1 hl
  obtain ⟨rfl, -, -, -⟩ := kE_one hw
  obtain ⟨Au, cu, rfl⟩ := own_any ho
  have HM1 := Lib.hid hm1
  have HN1 := Lib.hid (HN.out.mod0 hm1)
  have HF1 := Lib.hid (HF.out.mod0 hm1)
  have c0 : w1.cell? ⟨b1, 0, none⟩ = some (.int .i64 2) := HN1.out.get rfl
  have c1 : w1.cell? ⟨b1, 1, none⟩ = some (.slice (some ⟨b0, 0, none⟩) 1 1) := HN1.out.get rfl
  have c2 : w1.cell? ⟨b4, 0, none⟩ = some (.slice (some ⟨b2, 0, none⟩) 1 1) := HF1.out.get rfl
  have c3 : w1.cell? ⟨b4, 1, none⟩ = some (.slice (some ⟨b3, 0, none⟩) 1 1) := HF1.out.get rfl
  have y1 := HN1.out.lt
  have y4 := HF1.out.lt
  simp only [List.length_nil]
  clear hm1 HN HF hl hw ho hf
  go_wp2_with fail
  have hR := Blk.new w1 #[.int .i64 0, .slice Au 0 cu] 55
  have hM := (Mod.refl [] w1).alloc (.cells #[.int .i64 0, .slice Au 0 cu] 55)
  generalize w1.alloc (.cells #[.int .i64 0, .slice Au 0 cu] 55) = W6 at hR hM ⊢
  generalize w1.heap.size = r1 at hR ⊢
  refine (route_calls (n := 2) (v := 0) (tt := 1) (HG.out _ (HM1.out.trans hM)) 0 1 rfl (by decide) rfl (by decide)).mono ?_
  rintro e w2 ⟨hr, hm2⟩
  rcases hr with ⟨_, h⟩ | ⟨r, u, l, wd, rfl, _, _, hl, hw, _, _, ho, hf⟩
  · have := kE_least2 h; omega
  obtain rfl := kE_least2 hl
  have hll : l = [0] := by
    rcases kE_two hw with h | h
    · omega
    · exact h.2.1
  subst hll
  obtain ⟨Av, cv, rfl⟩ := own_any ho
  have HR1 := Lib.hid (hR.mod0 hm2)
  have HM2 := Lib.hid ((HM1.out.trans hM).trans hm2)
  have HN2 := Lib.hid (HN1.out.mod0 (hM.trans hm2))
  have HF2 := Lib.hid (HF1.out.mod0 (hM.trans hm2))
  clear c0 c1 c2 c3 y1 y4 hm2 hl hw ho hf hR hM HM1 HN1 HF1
  have c0 : w2.cell? ⟨b1, 0, none⟩ = some (.int .i64 2) := HN2.out.get rfl
  have c1 : w2.cell? ⟨b1, 1, none⟩ = some (.slice (some ⟨b0, 0, none⟩) 1 1) := HN2.out.get rfl
  have c2 : w2.cell? ⟨b4, 0, none⟩ = some (.slice (some ⟨b2, 0, none⟩) 1 1) := HF2.out.get rfl
  have c3 : w2.cell? ⟨b4, 1, none⟩ = some (.slice (some ⟨b3, 0, none⟩) 1 1) := HF2.out.get rfl
  have y1 := HN2.out.lt
  have y4 := HF2.out.lt
  simp only [List.length_singleton]
  go_wp2_with fail
  have hS := Blk.new w2 #[.int .i64 4, .slice Av 1 cv] 55
  have hM := (Mod.refl [] w2).alloc (.cells #[.int .i64 4, .slice Av 1 cv] 55)
  generalize w2.alloc (.cells #[.int .i64 4, .slice Av 1 cv] 55) = W7 at hS hM ⊢
  generalize w2.heap.size = r2 at hS ⊢
  refine (costs_calls (n := 2) (v := 0) (HG.out _ (HM2.out.trans hM)) 0 rfl (by decide)).mono ?_
  rintro e w3 ⟨u, L, rfl, hL, hle, ho, hm3, hf⟩
  obtain ⟨Aw, cw, rfl⟩ := own_any ho
  have hl1 : L[1]? = some 4 := by
    obtain ⟨x, hx⟩ : ∃ x, L[1]? = some x := ⟨_, List.getElem?_eq_getElem (by omega)⟩
    rw [hx, kE_least2 (hle 1 x hx)]
  rcases Sl.of_own ho with ⟨_, h0, _⟩ | ⟨wb, wo, c', hv1, _, _, _, hbl, hcell⟩
  · omega
  injection hv1 with hv1 hv2 hv3
  subst hv1
  have t1 : w3.cell? ⟨wb, wo + 1, none⟩ = some (.int .i64 4) := hcell 1 _ (ints_get hl1)
  have hR := HR1.out.mod0 (hM.trans hm3)
  have hS := hS.mod0 hm3
  have x0 : w3.cell? ⟨r1, 0, none⟩ = some (.int .i64 0) := hR.get rfl
  have x1 : w3.cell? ⟨r1, 1, none⟩ = some (.slice Au 0 cu) := hR.get rfl
  have x2 : w3.cell? ⟨r2, 0, none⟩ = some (.int .i64 4) := hS.get rfl
  have x3 : w3.cell? ⟨r2, 1, none⟩ = some (.slice Av 1 cv) := hS.get rfl
  have z1 := hR.lt
  have z2 := hS.lt
  have HM3 := Lib.hid (HM2.out.trans (hM.trans hm3))
  have HM0 := HM
  clear c0 c1 c2 c3 y1 y4 hm3 hM hle ho hf hcell hv2 hv3 hR hS hl1 hL HM2 HN2 HF2 HR1 HG
  go_wp2_with fail
  go_ret
  exact ⟨rfl, HM0.out.trans HM3.out⟩
end Go.Proofs.Ytekeondobdjppaa
