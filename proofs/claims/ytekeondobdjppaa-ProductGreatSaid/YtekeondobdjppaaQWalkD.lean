/- container/heap's down over a queue. -/
import Derived.Test.YtekeondobdjppaaQWalkC
namespace Go.Proofs.Ytekeondobdjppaa
open Go.RowKit

theorem lesser_left {l : List It} {i n : Nat} (h : ¬ (2 * i + 2 < n)) : lesser l i n = 2 * i + 1 := by unfold lesser; rw [if_neg (fun e => h e.1)]
theorem lesser_left' {l : List It} {i n : Nat} (h : bef (itAt l (2 * i + 2)) (itAt l (2 * i + 1)) = false) : lesser l i n = 2 * i + 1 := by unfold lesser; rw [if_neg (fun e => by rw [h] at e; exact absurd e.2 (by simp))]
theorem lesser_right {l : List It} {i n : Nat} (h : 2 * i + 2 < n) (h' : bef (itAt l (2 * i + 2)) (itAt l (2 * i + 1)) = true) : lesser l i n = 2 * i + 2 := by unfold lesser; rw [if_pos ⟨h, h'⟩]

theorem less_int {q ab n : Nat} {iv : Value} {l : List It} {w : World} (h : QS w q iv ab n l) (i j : Nat) (a b : Int) (ha : a = i) (hb : b = j) (hi : i < l.length) (hj : j < l.length) :
    Calls Try.prog 159 #[.pointer (some ⟨q, 0, none⟩), .int .i64 a, .int .i64 b] w fun e w' => e = .returned (.bool (bef (itAt l i) (itAt l j))) ∧ Mod [] w w' := by
  subst ha; subst hb; exact less_calls h i j hi hj
theorem swap_int {q ab n : Nat} {iv : Value} {l : List It} {w : World} (h : QS w q iv ab n l) (i j : Nat) (a b : Int) (ha : a = i) (hb : b = j) (hi : i < l.length) (hj : j < l.length) :
    Calls Try.prog 162 #[.pointer (some ⟨q, 0, none⟩), .int .i64 a, .int .i64 b] w fun e w' => e = .returned (.tuple #[]) ∧ QS w' q iv ab n (swapL l i j) ∧ Mod (qf q iv ab) w w' := by
  subst ha; subst hb; exact swap_any h i j hi hj

set_option maxRecDepth 100000 in
set_option maxHeartbeats 4000000 in
theorem down_calls {q ab n : Nat} {iv : Value} {l : List It} {w : World} (h : QS w q iv ab n l) (f i m : Nat) (hi : i ≤ l.length) (hm : m ≤ l.length) (hf : m ≤ i + f) :
    Calls Try.prog 131 #[qline q, .int .i64 i, .int .i64 m] w fun e w' => e = .returned (.bool (decide (i < (downL f l i m).2))) ∧ QS w' q iv ab n (downL f l i m).1 ∧ Mod (qf q iv ab) w w' := by
  have hm1 := method_less
  have hm2 := method_swap
  have hln := h.len
  have hn : n ≤ 1000000 := by obtain ⟨_, _, _, _, _, hn⟩ := h; exact hn
  have H := Lib.hid h
  clear h
  go_enter Try.func131, Try.ntmps131
  go_wp2_with fail
  go_loopw [7] (fun u wr => ∃ (i' f' : Nat) (l' : List It), u = .int .i64 i' ∧ i' ≤ l'.length ∧ l'.length = l.length ∧ m ≤ i' + f' ∧ Hid (QS wr q iv ab n l') ∧ Hid (Mod (qf q iv ab) w wr) ∧ Hid (downL f' l' i' m = downL f l i m)) (fun u _ => m - (intOf u).toNat)
  case atStart => exact ⟨i, f, l, rfl, hi, rfl, hf, H, Mod.refl _ _, rfl⟩
  case round =>
    obtain ⟨i', f', l', rfl, hi', hl', hf', HQ, HM, HU⟩ := hrel
    by_cases hc : 2 * i' + 1 < m
    · obtain ⟨f'', rfl⟩ : ∃ k, f' = k + 1 := ⟨f' - 1, by omega⟩
      have c1 : 2 * (i' : Int) + 1 < (m : Int) := by omega
      by_cases hc2 : 2 * i' + 2 < m
      · have c2 : 2 * (i' : Int) + 1 + 1 < (m : Int) := by omega
        cases hb : bef (itAt l' (2 * i' + 2)) (itAt l' (2 * i' + 1)) with
        | true =>
          have hL : lesser l' i' m = 2 * i' + 2 := lesser_right hc2 hb
          have HL := Lib.hid hL
          have HB := Lib.hid hb
          clear hL hb
          go_wp2_with fail
          refine (less_int HQ.out (2 * i' + 2) (2 * i' + 1) _ _ (by omega) (by omega) (by omega) (by omega)).mono ?_
          rintro e w1 ⟨rfl, hM⟩
          rw [HB.out]
          have HM1 := Lib.hid hM
          clear hM
          go_wp2_with fail
          refine (less_int (HQ.out.mod0 HM1.out) (2 * i' + 2) i' _ _ (by omega) (by omega) (by omega) (by omega)).mono ?_
          rintro e w2 ⟨rfl, hM⟩
          have HM2 := Lib.hid hM
          clear hM
          cases hb2 : bef (itAt l' (2 * i' + 2)) (itAt l' i') with
          | true =>
            have fin : downL f'' (swapL l' i' (2 * i' + 2)) (2 * i' + 2) m = downL f l i m := by rw [← HU.out, downL, if_pos hc, HL.out, if_pos hb2]
            have HF := Lib.hid fin
            clear fin
            go_wp2_with fail
            refine (swap_int ((HQ.out.mod0 HM1.out).mod0 HM2.out) i' (2 * i' + 2) _ _ (by omega) (by omega) (by omega) (by omega)).mono ?_
            rintro e w3 ⟨rfl, hQ3, hM3⟩
            have HQ3 := Lib.hid hQ3
            have HM3 := Lib.hid hM3
            clear hQ3 hM3
            go_wp2_with fail
            go_roundw
            case rel => exact ⟨2 * i' + 2, f'', swapL l' i' (2 * i' + 2), by go_num, by rw [swapL_length]; omega, by rw [swapL_length]; exact hl', by omega, HQ3, ((HM.out.trans HM1.out.nil).trans HM2.out.nil).trans HM3.out, HF⟩
            case measure => simp [intOf]; omega
          | false =>
            have fin : downL f l i m = (l', i') := by rw [← HU.out, downL, if_pos hc, HL.out, if_neg (by simp [hb2])]
            have HF := Lib.hid fin
            clear fin
            go_wp2_with fail
            go_ret
            rw [HF.out]
            exact ⟨rfl, (HQ.out.mod0 HM1.out).mod0 HM2.out, (HM.out.trans HM1.out.nil).trans HM2.out.nil⟩
        | false =>
          have hL : lesser l' i' m = 2 * i' + 1 := lesser_left' hb
          have HL := Lib.hid hL
          have HB := Lib.hid hb
          clear hL hb
          go_wp2_with fail
          refine (less_int HQ.out (2 * i' + 2) (2 * i' + 1) _ _ (by omega) (by omega) (by omega) (by omega)).mono ?_
          rintro e w1 ⟨rfl, hM⟩
          rw [HB.out]
          have HM1 := Lib.hid hM
          clear hM
          go_wp2_with fail
          refine (less_int (HQ.out.mod0 HM1.out) (2 * i' + 1) i' _ _ (by omega) (by omega) (by omega) (by omega)).mono ?_
          rintro e w2 ⟨rfl, hM⟩
          have HM2 := Lib.hid hM
          clear hM
          cases hb2 : bef (itAt l' (2 * i' + 1)) (itAt l' i') with
          | true =>
            have fin : downL f'' (swapL l' i' (2 * i' + 1)) (2 * i' + 1) m = downL f l i m := by rw [← HU.out, downL, if_pos hc, HL.out, if_pos hb2]
            have HF := Lib.hid fin
            clear fin
            go_wp2_with fail
            refine (swap_int ((HQ.out.mod0 HM1.out).mod0 HM2.out) i' (2 * i' + 1) _ _ (by omega) (by omega) (by omega) (by omega)).mono ?_
            rintro e w3 ⟨rfl, hQ3, hM3⟩
            have HQ3 := Lib.hid hQ3
            have HM3 := Lib.hid hM3
            clear hQ3 hM3
            go_wp2_with fail
            go_roundw
            case rel => exact ⟨2 * i' + 1, f'', swapL l' i' (2 * i' + 1), by go_num, by rw [swapL_length]; omega, by rw [swapL_length]; exact hl', by omega, HQ3, ((HM.out.trans HM1.out.nil).trans HM2.out.nil).trans HM3.out, HF⟩
            case measure => simp [intOf]; omega
          | false =>
            have fin : downL f l i m = (l', i') := by rw [← HU.out, downL, if_pos hc, HL.out, if_neg (by simp [hb2])]
            have HF := Lib.hid fin
            clear fin
            go_wp2_with fail
            go_ret
            rw [HF.out]
            exact ⟨rfl, (HQ.out.mod0 HM1.out).mod0 HM2.out, (HM.out.trans HM1.out.nil).trans HM2.out.nil⟩
      · have c2 : (m : Int) ≤ 2 * (i' : Int) + 1 + 1 := by omega
        have hL : lesser l' i' m = 2 * i' + 1 := lesser_left hc2
        have HL := Lib.hid hL
        clear hL
        go_wp2_with fail
        refine (less_int HQ.out (2 * i' + 1) i' _ _ (by omega) (by omega) (by omega) (by omega)).mono ?_
        rintro e w2 ⟨rfl, hM⟩
        have HM2 := Lib.hid hM
        clear hM
        cases hb2 : bef (itAt l' (2 * i' + 1)) (itAt l' i') with
        | true =>
          have fin : downL f'' (swapL l' i' (2 * i' + 1)) (2 * i' + 1) m = downL f l i m := by rw [← HU.out, downL, if_pos hc, HL.out, if_pos hb2]
          have HF := Lib.hid fin
          clear fin
          go_wp2_with fail
          refine (swap_int (HQ.out.mod0 HM2.out) i' (2 * i' + 1) _ _ (by omega) (by omega) (by omega) (by omega)).mono ?_
          rintro e w3 ⟨rfl, hQ3, hM3⟩
          have HQ3 := Lib.hid hQ3
          have HM3 := Lib.hid hM3
          clear hQ3 hM3
          go_wp2_with fail
          go_roundw
          case rel => exact ⟨2 * i' + 1, f'', swapL l' i' (2 * i' + 1), by go_num, by rw [swapL_length]; omega, by rw [swapL_length]; exact hl', by omega, HQ3, (HM.out.trans HM2.out.nil).trans HM3.out, HF⟩
          case measure => simp [intOf]; omega
        | false =>
          have fin : downL f l i m = (l', i') := by rw [← HU.out, downL, if_pos hc, HL.out, if_neg (by simp [hb2])]
          have HF := Lib.hid fin
          clear fin
          go_wp2_with fail
          go_ret
          rw [HF.out]
          exact ⟨rfl, HQ.out.mod0 HM2.out, HM.out.trans HM2.out.nil⟩
    · have fin : downL f l i m = (l', i') := by rw [← HU.out]; cases f' with | zero => rfl | succ f' => rw [downL, if_neg hc]
      have HF := Lib.hid fin
      clear fin
      have hc' : (m : Int) ≤ 2 * (i' : Int) + 1 := by omega
      go_wp2_with fail
      go_ret
      rw [HF.out]
      exact ⟨rfl, HQ.out, HM.out⟩
end Go.Proofs.Ytekeondobdjppaa
