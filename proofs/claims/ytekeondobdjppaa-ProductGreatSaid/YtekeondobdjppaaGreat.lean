/- Costs at the greatest, costs of nothing: the walk of ProductGreat. -/
import Derived.Test.YtekeondobdjppaaKnown
import Derived.Test.YtekeondobdjppaaBoth
import Derived.Test.YtekeondobdjppaaWithin
import Derived.Deep.DeepCutAuto
namespace Go.Proofs.Ytekeondobdjppaa
open Go.RowKit

/-- The network: k edges on, with edges back. -/
def geS (c : Nat) (back : Bool) (i : Nat) : List Ed := ⟨i, i + 1, i % 5, c⟩ :: if back = true then [⟨i + 1, i, i % 5, 0⟩] else []
def geE (c : Nat) (back : Bool) (k : Nat) : List Ed := (List.range k).flatMap (geS c back)
theorem geE_succ (c : Nat) (back : Bool) (k : Nat) : geE c back (k + 1) = geE c back k ++ geS c back k := by simp [geE, List.range_succ, List.flatMap_append]
theorem geE_mem {c : Nat} {back : Bool} {k : Nat} {e : Ed} (h : e ∈ geE c back k) : ∃ i, i < k ∧ (e = ⟨i, i + 1, i % 5, c⟩ ∨ e = ⟨i + 1, i, i % 5, 0⟩) := by
  simp only [geE, List.mem_flatMap, List.mem_range, geS, List.mem_cons] at h
  obtain ⟨i, hi, h | h⟩ := h
  · exact ⟨i, hi, Or.inl h⟩
  · refine ⟨i, hi, Or.inr ?_⟩
    split at h
    · simpa using h
    · simp at h
theorem geE_len (c : Nat) (back : Bool) (k : Nat) : (geE c back k).length ≤ 2 * k := by
  induction k with
  | zero => simp [geE]
  | succ k ih =>
    rw [geE_succ, List.length_append]
    have : (geS c back k).length ≤ 2 := by simp only [geS]; split <;> simp
    omega
theorem geE_ok {c : Nat} {back : Bool} {k : Nat} (hc : c ≤ 2147483647) : EdOk (k + 1) (geE c back k) := by
  intro e he
  obtain ⟨i, hi, rfl | rfl⟩ := geE_mem he
  · exact ⟨by simp only; omega, by simp only; omega, by simp only; omega, hc⟩
  · exact ⟨by simp only; omega, by simp only; omega, by simp only; omega, by simp⟩
theorem geE_low {c : Nat} {back : Bool} {k : Nat} {l : List Nat} {u : Nat} {d : Int} {w : List Nat} (h : Wlk (geE c back k) 0 l u d w) : ((c * u : Nat) : Int) ≤ d ∧ u ≤ l.length := by
  induction h with
  | nil => simp
  | snoc l u d w j h1 h2 h3 ih =>
    obtain ⟨i, hi, e | e⟩ := geE_mem (List.mem_of_getElem? (edAt_of h2))
    · rw [e] at h3 ⊢
      simp only at h3 ⊢
      subst h3
      rw [Nat.mul_add, List.length_append, List.length_singleton]
      omega
    · rw [e] at h3 ⊢
      simp only at h3 ⊢
      subst h3
      rw [Nat.mul_add] at ih
      rw [List.length_append, List.length_singleton]
      omega
theorem geE_way {c : Nat} {back : Bool} {k : Nat} : ∀ u, u ≤ k → ∃ l w, Wlk (geE c back k) 0 l u ((c * u : Nat) : Int) w := by
  intro u
  induction u with
  | zero => intro _; exact ⟨[], [], .nil⟩
  | succ u ih =>
    intro hu
    obtain ⟨l, w, h⟩ := ih (by omega)
    have hm : (⟨u, u + 1, u % 5, c⟩ : Ed) ∈ geE c back k := by
      simp only [geE, List.mem_flatMap, List.mem_range, geS]
      exact ⟨u, by omega, by simp⟩
    obtain ⟨j, hj⟩ := List.getElem?_of_mem hm
    have hlt := (List.getElem?_eq_some_iff.1 hj).1
    have he : edAt (geE c back k) j = ⟨u, u + 1, u % 5, c⟩ := by
      rw [edAt_of hlt] at hj
      exact Option.some.inj hj
    have h2 := Wlk.snoc l u _ w j h hlt (by rw [he])
    rw [he] at h2
    refine ⟨l ++ [j], w ++ [u % 5], ?_⟩
    · have e : ((c * (u + 1) : Nat) : Int) = ((c * u : Nat) : Int) + (c : Int) := by rw [Nat.mul_add]; omega
      rw [e]
      exact h2
theorem geE_least {c : Nat} {back : Bool} {k : Nat} {r : Int} (h : LeastW (geE c back k) oneD 0 k r) : r = ((c * k : Nat) : Int) := by
  obtain ⟨l, w, hw⟩ := geE_way (c := c) (back := back) (k := k) k (Nat.le_refl _)
  rcases h with ⟨_, h⟩ | ⟨_, ⟨l', w', h1, _⟩, h2⟩
  · have := h _ _ _ hw; cases this
  · have a := (geE_low h1).1
    have b := h2 _ _ _ hw rfl
    omega

set_option maxRecDepth 100000 in
set_option maxHeartbeats 4000000 in
theorem great_raw (k : Int) (zero back : Bool) (c : Nat) (hc : (zero = true ∧ c = 0) ∨ (zero = false ∧ c = 2147483647)) (w : World) : Calls Try.prog 11 #[.int .i64 k, .bool zero, .bool back] w fun e w' => e = .returned (.bool true) ∧ Mod [] w w' := by
  obtain ⟨m, hm, hm1, hm2⟩ : ∃ m : Nat, (2 : Int) + k % 50 = (m : Int) + 1 ∧ 1 ≤ m ∧ m ≤ 50 := ⟨(1 + k % 50).toNat, by omega, by omega, by omega⟩
  have HM := Lib.hid hm
  have HC := Lib.hid hc
  have hk0 : 0 ≤ k % 50 := by omega
  have hk1 : k % 50 < 50 := by omega
  have hcb : c ≤ 2147483647 := by omega
  clear hm hc
  go_enter Try.func11, Try.ntmps11
  go_wp2_with fail
  refine (known_calls _).mono ?_
  rintro e w1 ⟨rfl, hm1'⟩
  have HM1 := Lib.hid hm1'
  clear hm1'
  go_wp2_with fail
  refine (within9_calls k 50 _ (by decide) (by decide)).mono ?_
  rintro e w2 ⟨rfl, rfl⟩
  go_upto_region 4 with fail
  simp only [HM.out]
  have hB := Blk.new w1 #[.int .i64 ((m : Int) + 1), .slice none 0 0] 28
  have hM := (Mod.refl [] w1).alloc (.cells #[.int .i64 ((m : Int) + 1), .slice none 0 0] 28)
  generalize w1.alloc (.cells #[.int .i64 ((m : Int) + 1), .slice none 0 0] 28) = W2 at hB hM ⊢
  have HBL : Hid (w.heap.size ≤ w1.heap.size) := HM1.out.size
  generalize w1.heap.size = b7 at hB HBL ⊢
  have HB := Lib.hid hB
  have HM2 := Lib.hid (HM1.out.trans hM)
  clear hB hM HM1
  go_upto_if 21 with (fail)
  go_cut [8] (fun u wx => u = .int .i64 c ∧ W2 = wx)
  case first =>
    rcases HC.out with ⟨rfl, rfl⟩ | ⟨rfl, rfl⟩
    · go_wp2_with fail
      go_meet
      exact ⟨rfl, rfl⟩
    · go_wp2_with fail
      go_meet
      exact ⟨rfl, rfl⟩
  case rest =>
    obtain ⟨rfl, rfl⟩ := hcut
    go_wp2_with fail
    clear HC
    obtain ⟨wo, rfl⟩ : ∃ wo : World, wo = W2 := ⟨_, rfl⟩
    have zb7 := HB.out.lt
    go_loopw [9] (fun u wr => ∃ (i : Nat) (v : Value), i ≤ m ∧ u = .int .i64 i ∧ Hid (Blk wr b7 28 [.int .i64 ((m : Int) + 1), v]) ∧ Hid (wr.ownsRow 0 44 4 v (geE c back i).length (edCells (geE c back i))) ∧ Hid (Mod [b7] wo wr) ∧ Hid (∀ b, v.ownBlock = some b → wo.heap.size ≤ b)) (fun u _ => m - (intOf u).toNat)
    case atStart => exact ⟨0, _, Nat.zero_le _, rfl, HB, World.ownsRow_nil _ _ _ _, Mod.refl _ _, fun k hk => by simp [Value.ownBlock] at hk⟩
    case round =>
      obtain ⟨i, v, hi, rfl, HB1, HO, HM3, HF⟩ := hrel
      obtain ⟨Av, cv, rfl⟩ := own_any HO.out
      have d0 : wr.cell? ⟨b7, 0, none⟩ = some (.int .i64 ((m : Int) + 1)) := HB1.out.get rfl
      have d1 : wr.cell? ⟨b7, 1, none⟩ = some (.slice Av (geE c back i).length cv) := HB1.out.get rfl
      have zz : b7 < wr.heap.size := HB1.out.lt
      have ff := HB1.out.frozen 1
      have hnb := own_ne_block HO.out HB1.out (by decide)
      have b0 : (0 : Int) ≤ (i : Int) := by omega
      have hel := geE_len c back i
      by_cases hlt : i < m
      · have h1 : (i : Int) + 1 < (m : Int) + 1 := by omega
        obtain ⟨r5, hr5⟩ : ∃ r : Nat, i % 5 = r := ⟨_, rfl⟩
        have hr5' : (i : Int) % 5 = (r5 : Int) := by omega
        have HR5 := Lib.hid hr5
        have HNB := Lib.hid hnb
        have hsucc := geE_succ c back i
        have HSU := Lib.hid hsucc
        clear hr5 hnb hsucc
        have b5 : (0 : Int) ≤ (i : Int) % 5 := by omega
        go_upto_if 41 with ((at_builtin; refine list_app rfl (.tmp 30) (.tmp 38) 26 rfl appEdge (.slice Av (geE c back i).length cv) (geE c back i).length (edCells (geE c back i)) rfl (own_alloc HO.out _) wr.heap.size 44 1 [.int .i64 i, .int .i64 (i + 1), .int .i64 r5, .int .i64 c] rfl rfl (Blk.new wr #[.int .i64 i, .int .i64 (i + 1), .int .i64 r5, .int .i64 c] 44) (by simp [Value.oneCell']) (by omega) (by omega) ?_; intro gg e1 w4 ho4 hg4 hat4 hlt4; have M4 : Mod (Value.slice Av (geE c back i).length cv).ownBlock.toList wr w4 := ((Mod.refl _ wr).alloc _).grown hg4 (fun k hk => Or.inl (toList_own.2 hk)); have nb1 : b7 ∉ (Value.slice Av (geE c back i).length cv).ownBlock.toList := (fun h => HNB.out _ (toList_own.1 h) rfl); have v1 := M4.cell d1 nb1; have fb1 := frozen_mod M4 d1 nb1 ff; have HO4 := Lib.hid ho4; have HM4 := Lib.hid M4; have HT := Lib.hid hat4; clear ho4 hg4 hat4 M4 nb1))
        have hB5 := (HM4.out.keep HB1.out (fun h => HNB.out _ (toList_own.1 h) rfl)).set 1 (.slice (some ⟨gg, 0, none⟩) ((geE c back i).length + 1) e1)
        have hM5 : Mod [b7] wo (w4.setCell ⟨b7, 1, none⟩ (.slice (some ⟨gg, 0, none⟩) ((geE c back i).length + 1) e1)) := (HM3.out.then HM4.out (fun b hb => Or.inr (HF.out b (toList_own.1 hb)))).setCell (p := ⟨b7, 1, none⟩) (Or.inl (by simp)) _
        have hF5 : wo.heap.size ≤ gg := by
          have hWs := HM3.out.size
          rcases HT.out with h1 | h1
          · exact HF.out _ h1
          · simp at h1; omega
        have hO5 : (w4.setCell ⟨b7, 1, none⟩ (.slice (some ⟨gg, 0, none⟩) ((geE c back i).length + 1) e1)).ownsRow 0 44 4 (.slice (some ⟨gg, 0, none⟩) ((geE c back i).length + 1) e1) ((geE c back i).length + 1) (edCells (geE c back i) ++ [.int .i64 i, .int .i64 (i + 1), .int .i64 r5, .int .i64 c]) :=
          ((Mod.refl [b7] w4).setCell (p := ⟨b7, 1, none⟩) (Or.inl (by simp)) _).own HO4.out (fun b hb h1 => by
            have := own_ne_block HO4.out (HM4.out.keep HB1.out (fun h => HNB.out _ (toList_own.1 h) rfl)) (by decide) b hb
            exact this (by simpa using h1))
        generalize w4.setCell ⟨b7, 1, none⟩ (.slice (some ⟨gg, 0, none⟩) ((geE c back i).length + 1) e1) = W5 at hB5 hM5 hO5 ⊢
        have HB5 := Lib.hid hB5
        have HM5 := Lib.hid hM5
        have HO5 := Lib.hid hO5
        have HF5 := Lib.hid hF5
        clear hB5 hM5 hO5 hF5 HB1 HO HM3 HF HO4 HM4 HT HNB v1 fb1 d0 d1 zz ff
        cases back with
        | false =>
          go_wp2_with fail
          refine ⟨⟨i + 1, _, by omega, by go_num, HB5, ?_, HM5, fun b hb => ?_⟩, by simp [intOf]; omega⟩
          · have e5 : edCells (geE c false (i + 1)) = edCells (geE c false i) ++ [Value.int .i64 i, .int .i64 (i + 1), .int .i64 r5, .int .i64 c] := by
              rw [HSU.out, edCells_append]
              simp [geS, edCells, HR5.out]
            have e6 : (geE c false (i + 1)).length = (geE c false i).length + 1 := by rw [HSU.out]; simp [geS]
            show World.ownsRow _ _ _ _ _ _ _
            rw [e5, e6]
            exact HO5.out
          · simp only [Value.ownBlock] at hb
            obtain rfl : gg = b := by simpa using hb
            exact HF5.out
        | true =>
          have d1 : W5.cell? ⟨b7, 1, none⟩ = some (.slice (some ⟨gg, 0, none⟩) ((geE c true i).length + 1) e1) := HB5.out.get rfl
          have zz : b7 < W5.heap.size := HB5.out.lt
          have ff := HB5.out.frozen 1
          have hnb := own_ne_block HO5.out HB5.out (by decide)
          have HNB := Lib.hid hnb
          clear hnb
          go_wp2_with ((at_builtin; refine list_app rfl (.tmp 43) (.tmp 50) 26 rfl appEdge (.slice (some ⟨gg, 0, none⟩) ((geE c true i).length + 1) e1) ((geE c true i).length + 1) _ rfl (own_alloc HO5.out _) W5.heap.size 44 1 [.int .i64 (i + 1), .int .i64 i, .int .i64 r5, .int .i64 0] rfl rfl (Blk.new W5 #[.int .i64 (i + 1), .int .i64 i, .int .i64 r5, .int .i64 0] 44) (by simp [Value.oneCell']) (by omega) (by omega) ?_; intro g6 e6 w6 ho6 hg6 hat6 hlt6; have M6 : Mod (Value.slice (some ⟨gg, 0, none⟩) ((geE c true i).length + 1) e1).ownBlock.toList W5 w6 := ((Mod.refl _ W5).alloc _).grown hg6 (fun k hk => Or.inl (toList_own.2 hk)); have nb1 : b7 ∉ (Value.slice (some ⟨gg, 0, none⟩) ((geE c true i).length + 1) e1).ownBlock.toList := (fun h => HNB.out _ (toList_own.1 h) rfl); have v1 := M6.cell d1 nb1; have fb1 := frozen_mod M6 d1 nb1 ff; have HO6 := Lib.hid ho6; have HM6 := Lib.hid M6; have HT := Lib.hid hat6; clear ho6 hg6 hat6 M6 nb1))
          have hB6 := HM6.out.keep HB5.out (fun h => HNB.out _ (toList_own.1 h) rfl)
          have hF6 : wo.heap.size ≤ g6 := by
            have hWs := HM5.out.size
            rcases HT.out with h1 | h1
            · simp only [Value.ownBlock, Option.some.injEq] at h1
              rw [← h1]; exact HF5.out
            · simp at h1; omega
          refine ⟨⟨i + 1, _, by omega, by go_num, hB6.set 1 _, ?_, (HM5.out.then HM6.out (fun b hb => Or.inr (by
            have := toList_own.1 hb
            simp only [Value.ownBlock, Option.some.injEq] at this
            rw [← this]; exact HF5.out))).setCell (p := ⟨b7, 1, none⟩) (Or.inl (by simp)) _, fun b hb => ?_⟩, by simp [intOf]; omega⟩
          · have e5 : edCells (geE c true (i + 1)) = (edCells (geE c true i) ++ [Value.int .i64 i, .int .i64 (i + 1), .int .i64 r5, .int .i64 c]) ++ [.int .i64 (i + 1), .int .i64 i, .int .i64 r5, .int .i64 0] := by
              rw [HSU.out, edCells_append]
              simp [geS, edCells, HR5.out]
            have e6 : (geE c true (i + 1)).length = (geE c true i).length + 1 + 1 := by rw [HSU.out]; simp [geS]
            show World.ownsRow _ _ _ _ _ _ _
            rw [e5, e6]
            exact ((Mod.refl [b7] w6).setCell (p := ⟨b7, 1, none⟩) (Or.inl (by simp)) _).own HO6.out (fun b hb h1 => by
              have := own_ne_block HO6.out hB6 (by decide) b hb
              exact this (by simpa using h1))
          · simp only [Value.ownBlock] at hb
            obtain rfl : g6 = b := by simpa using hb
            exact hF6
      · obtain rfl : i = m := by omega
        clear d1 ff hnb HB
        go_upto_region 14 with fail
        clear d0 zz
        have hX := Blk.new' (w := wr) #[.int .i64 0, .int .i64 0, .int .i64 0, .int .i64 0, .int .i64 0] 64 rfl
        have hM := (Mod.refl [] wr).alloc (.cells #[.int .i64 0, .int .i64 0, .int .i64 0, .int .i64 0, .int .i64 0] 64)
        have s2 := alz wr (.cells #[.int .i64 0, .int .i64 0, .int .i64 0, .int .i64 0, .int .i64 0] 64)
        generalize wr.alloc (.cells #[.int .i64 0, .int .i64 0, .int .i64 0, .int .i64 0, .int .i64 0] 64) = W3 at hX hM s2 ⊢
        have hA := Blk.new' (w := W3) #[.bool true] 4 s2
        have hX := hX.alloc (.cells #[.bool true] 4)
        have hM := hM.alloc (.cells #[.bool true] 4)
        have s3 := alz W3 (.cells #[.bool true] 4)
        rw [s2] at s3
        clear s2
        generalize W3.alloc (.cells #[.bool true] 4) = W4 at hX hA hM s3 ⊢
        have hD := Blk.new' (w := W4) #[.slice (some ⟨wr.heap.size, 0, none⟩) 1 1, .slice (some ⟨wr.heap.size + 1, 0, none⟩) 1 1] 33 s3
        have hX := hX.alloc (.cells #[.slice (some ⟨wr.heap.size, 0, none⟩) 1 1, .slice (some ⟨wr.heap.size + 1, 0, none⟩) 1 1] 33)
        have hA := hA.alloc (.cells #[.slice (some ⟨wr.heap.size, 0, none⟩) 1 1, .slice (some ⟨wr.heap.size + 1, 0, none⟩) 1 1] 33)
        have hM := hM.alloc (.cells #[.slice (some ⟨wr.heap.size, 0, none⟩) 1 1, .slice (some ⟨wr.heap.size + 1, 0, none⟩) 1 1] 33)
        generalize W4.alloc (.cells #[.slice (some ⟨wr.heap.size, 0, none⟩) 1 1, .slice (some ⟨wr.heap.size + 1, 0, none⟩) 1 1] 33) = W5 at hX hA hD hM ⊢
        clear s3
        obtain ⟨b4, e4⟩ : ∃ b, wr.heap.size + 1 + 1 = b := ⟨_, rfl⟩
        obtain ⟨b3, e3⟩ : ∃ b, wr.heap.size + 1 = b := ⟨_, rfl⟩
        rw [e4] at hD
        rw [e3] at hA hD
        simp only [e4]
        simp only [e3]
        clear e4 e3
        generalize wr.heap.size = b2' at hX hD ⊢
        have hG : ∀ W, Mod [] W5 W → Given W ((Value.slice Av (geE c back i).length cv).ownBlock.toList ++ [b2', b3]) (i + 1) (.slice Av (geE c back i).length cv) (geE c back i) (.slice (some ⟨b2', 0, none⟩) 1 1) (.slice (some ⟨b3, 0, none⟩) 1 1) oneD := fun W hW => by
          have g2 := hX.mod0 hW
          have g3 := hA.mod0 hW
          refine ⟨by omega, by omega, by omega, geE_ok hcb, oneD_ok, (Sl.of_own ((hM.trans hW).own HO.out (by simp))).more (fun b hb => List.mem_append_left _ hb), Or.inr ⟨b2', 0, 1, rfl, by decide, by decide, by simp, g2.lt, fun j u hu => ?_⟩, Or.inr ⟨b3, 0, 1, rfl, by decide, by decide, by simp, g3.lt, fun j u hu => ?_⟩⟩
          · rw [Nat.zero_add]; exact g2.get hu
          · rw [Nat.zero_add]; exact g3.get hu
        have HG := Lib.hid hG
        have HN := Lib.hid (HB1.out.mod0 hM)
        have HD := Lib.hid hD
        have HMW : Hid (Mod [] w W5) := (HM2.out.then HM3.out (fun b hb => Or.inr (by simp only [List.mem_singleton] at hb; rw [hb]; exact HBL.out))).trans hM
        clear hG hX hA hD hM HB1 HO HM3 HF HM2 zb7
        obtain ⟨N, hN⟩ : ∃ N : Nat, i + 1 = N := ⟨_, rfl⟩
        have hNi : (i : Int) + 1 = (N : Int) := by omega
        rw [hN] at HG
        rw [hNi] at HN
        simp only [hNi]
        have hN1 : (N : Int) - 1 = (i : Int) := by omega
        have HN1 := Lib.hid hN1
        have b1 : (1 : Int) ≤ (N : Int) := by omega
        have b2 : (N : Int) ≤ 51 := by omega
        have hiN : i < N := by omega
        clear hNi hN1 hN
        have d0 : W5.cell? ⟨b7, 0, none⟩ = some (.int .i64 N) := HN.out.get rfl
        have d1 : W5.cell? ⟨b7, 1, none⟩ = some (.slice Av (geE c back i).length cv) := HN.out.get rfl
        have d2 : W5.cell? ⟨b4, 0, none⟩ = some (.slice (some ⟨b2', 0, none⟩) 1 1) := HD.out.get rfl
        have d3 : W5.cell? ⟨b4, 1, none⟩ = some (.slice (some ⟨b3, 0, none⟩) 1 1) := HD.out.get rfl
        have z1 := HN.out.lt
        have z2 := HD.out.lt
        go_wp2_with fail
        refine (route_calls (n := N) (v := 0) (tt := i) (HG.out _ (Mod.refl _ _)) 0 _ rfl (by omega) HN1.out hiN).mono ?_
        rintro e w6 ⟨hr, hm6⟩
        rcases hr with ⟨_, h⟩ | ⟨r, u, l, wd, rfl, hr0, hr1, hl, hw, hac, hll, ho, hf⟩
        · have := geE_least h; omega
        have hrr := geE_least hl
        obtain ⟨Au, cu, rfl⟩ := own_any ho
        have HM6 := Lib.hid (HMW.out.trans hm6)
        have HM65 := Lib.hid hm6
        have HN6 := Lib.hid (HN.out.mod0 hm6)
        have HD6 := Lib.hid (HD.out.mod0 hm6)
        have HRR := Lib.hid hrr
        have HW := Lib.hid hw
        have HO := Lib.hid ho
        have HLL : Hid (i ≤ l.length) := (geE_low hw).2
        clear hm6 hl hw hac ho hf hrr d0 d1 d2 d3 z1 z2 HMW HN HD
        have d0 : w6.cell? ⟨b7, 0, none⟩ = some (.int .i64 N) := HN6.out.get rfl
        have d1 : w6.cell? ⟨b7, 1, none⟩ = some (.slice Av (geE c back i).length cv) := HN6.out.get rfl
        have d2 : w6.cell? ⟨b4, 0, none⟩ = some (.slice (some ⟨b2', 0, none⟩) 1 1) := HD6.out.get rfl
        have d3 : w6.cell? ⟨b4, 1, none⟩ = some (.slice (some ⟨b3, 0, none⟩) 1 1) := HD6.out.get rfl
        have z1 := HN6.out.lt
        have z2 := HD6.out.lt
        go_wp2_with fail
        have hR := Blk.new w6 #[.int .i64 r, .slice Au l.length cu] 55
        have hM := (Mod.refl [] w6).alloc (.cells #[.int .i64 r, .slice Au l.length cu] 55)
        generalize w6.alloc (.cells #[.int .i64 r, .slice Au l.length cu] 55) = W7 at hR hM ⊢
        generalize w6.heap.size = r1 at hR ⊢
        refine (both_calls (n := N) (v := 0) (u := i) (HG.out _ (HM65.out.trans hM)) 0 _ rfl (by omega) HN1.out hiN).mono ?_
        rintro e w8 ⟨r2, rfl, hl2, hm8⟩
        have hr2 := geE_least hl2
        rw [← HRR.out] at hr2
        subst hr2
        have HM8 := Lib.hid ((HM6.out.trans hM).trans hm8)
        have HM85 := Lib.hid ((HM65.out.trans hM).trans hm8)
        have HN8 := HN6.out.mod0 (hM.trans hm8)
        have HD8 := HD6.out.mod0 (hM.trans hm8)
        have hR8 := hR.mod0 hm8
        have HO8 := Lib.hid ((hM.trans hm8).own HO.out (by simp))
        clear d0 d1 d2 d3 z1 z2
        have d0 : w8.cell? ⟨b7, 0, none⟩ = some (.int .i64 N) := HN8.get rfl
        have d1 : w8.cell? ⟨b7, 1, none⟩ = some (.slice Av (geE c back i).length cv) := HN8.get rfl
        have d2 : w8.cell? ⟨b4, 0, none⟩ = some (.slice (some ⟨b2', 0, none⟩) 1 1) := HD8.get rfl
        have d3 : w8.cell? ⟨b4, 1, none⟩ = some (.slice (some ⟨b3, 0, none⟩) 1 1) := HD8.get rfl
        have d4 : w8.cell? ⟨r1, 0, none⟩ = some (.int .i64 r2) := hR8.get rfl
        have d5 : w8.cell? ⟨r1, 1, none⟩ = some (.slice Au l.length cu) := hR8.get rfl
        have z1 := HN8.lt
        have z2 := HD8.lt
        have z3 := hR8.lt
        clear hl2 hm8 hM hR hR8 HN8 HD8 HN6 HD6 HM6 HM65 HO
        have hcn : (c : Int) * ((N : Int) - 1) = r2 := by
          rw [HN1.out, HRR.out]; exact (Int.natCast_mul _ _).symm
        rw [if_pos hr0, decide_eq_true hr0]
        go_wp2_with fail
        refine (right_calls (n := N) (v := 0) (u := i) (HG.out _ HM85.out) (Sl.of_own HO8.out) (by omega) HW.out rfl (by omega) hiN 0 _ _ rfl HN1.out rfl).mono ?_
        rintro e w9 ⟨rfl, hm9⟩
        have HM9 := Lib.hid (HM8.out.trans hm9)
        have d0 := hm9.cell d0 (by simp)
        have d5 := hm9.cell d5 (by simp)
        have z1 := Nat.lt_of_lt_of_le z1 hm9.size
        have z3 := Nat.lt_of_lt_of_le z3 hm9.size
        have hge : (N : Int) - 1 ≤ (l.length : Int) := by
          have h1 := HN1.out
          have h2 := HLL.out
          omega
        clear hm9 d1 d2 d3 d4 z2
        go_wp2_with fail
        go_ret
        exact ⟨rfl, HM9.out⟩

theorem great_calls (k : Int) (zero back : Bool) (w : World) : Calls Try.prog 11 #[.int .i64 k, .bool zero, .bool back] w fun e w' => e = .returned (.bool true) ∧ Mod [] w w' := by
  cases zero with
  | false => exact great_raw k false back 2147483647 (Or.inr ⟨rfl, rfl⟩) w
  | true => exact great_raw k true back 0 (Or.inl ⟨rfl, rfl⟩) w
end Go.Proofs.Ytekeondobdjppaa
