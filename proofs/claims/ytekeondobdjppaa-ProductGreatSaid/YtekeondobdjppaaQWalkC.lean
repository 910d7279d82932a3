/- container/heap's up and down over a queue. -/
import Derived.Test.YtekeondobdjppaaQWalkA
import Derived.Test.YtekeondobdjppaaQWalkB
import Derived.KernelRfl
namespace Go.Proofs.Ytekeondobdjppaa
open Go.RowKit

theorem method_push (a : Addr) (w : World) : (method 348 220 (.pointer (some a)) "Push").run Try.prog w = .ok (161, .pointer (some a)) w := by kernel_rfl
theorem method_pop (a : Addr) (w : World) : (method 348 220 (.pointer (some a)) "Pop").run Try.prog w = .ok (160, .pointer (some a)) w := by kernel_rfl
theorem method_len (a : Addr) (w : World) : (method 348 220 (.pointer (some a)) "Len").run Try.prog w = .ok (126, .pointer (some a)) w := by kernel_rfl
theorem method_less (a : Addr) (w : World) : (method 348 220 (.pointer (some a)) "Less").run Try.prog w = .ok (159, .pointer (some a)) w := by kernel_rfl
theorem method_swap (a : Addr) (w : World) : (method 348 220 (.pointer (some a)) "Swap").run Try.prog w = .ok (162, .pointer (some a)) w := by kernel_rfl

abbrev qline (q : Nat) : Value := .iface 220 (.pointer (some ⟨q, 0, none⟩))

set_option maxRecDepth 100000 in
set_option maxHeartbeats 1000000 in
theorem up_calls {q ab n : Nat} {iv : Value} {l : List It} {w : World} (h : QS w q iv ab n l) (f j : Nat) (hj : j < l.length) (hf : j ≤ f) :
    Calls Try.prog 130 #[qline q, .int .i64 j] w fun e w' => e = .returned (.tuple #[]) ∧ QS w' q iv ab n (upL f l j) ∧ Mod (qf q iv ab) w w' := by
  have hm1 := method_less
  have hm2 := method_swap
  have hln := h.len
  have hn : n ≤ 1000000 := by obtain ⟨_, _, _, _, _, hn⟩ := h; exact hn
  have H := Lib.hid h
  clear h
  go_enter Try.func130, Try.ntmps130
  go_wp2_with fail
  go_loopw [1] (fun u wr => ∃ (j' f' : Nat) (l' : List It), u = .int .i64 j' ∧ j' < l'.length ∧ l'.length = l.length ∧ j' ≤ f' ∧ Hid (QS wr q iv ab n l') ∧ Hid (Mod (qf q iv ab) w wr) ∧ Hid (upL f' l' j' = upL f l j)) (fun u _ => (intOf u).toNat)
  case atStart => exact ⟨j, f, l, rfl, hj, rfl, hf, H, Mod.refl _ _, rfl⟩
  case round =>
    obtain ⟨j', f', l', rfl, hj', hl', hf', HQ, HM, HU⟩ := hrel
    have hQ := HQ.out
    by_cases h0 : j' = 0
    · subst h0
      have fin : l' = upL f l j := by rw [← HU.out]; cases f' <;> simp [upL]
      have hfin : QS wr q iv ab n (upL f l j) := fin ▸ hQ
      have HF := Lib.hid hfin
      clear fin hfin hQ
      go_wp2_with fail
      go_end0
      exact ⟨rfl, HF.out, HM.out⟩
    · obtain ⟨p, hp⟩ : ∃ p, (j' - 1) / 2 = p := ⟨_, rfl⟩
      have e1 : ((j' : Int) - 1) / 2 = (p : Int) := by omega
      have e2 : ((p : Int) == (j' : Int)) = false := by rw [beq_eq_false_iff_ne]; omega
      have hpj : p < j' := by omega
      obtain ⟨f'', rfl⟩ : ∃ m, f' = m + 1 := ⟨f' - 1, by omega⟩
      have HP := Lib.hid hp
      clear hp
      have hl := less_calls hQ j' p hj' (by omega)
      have HL := Lib.hid hl
      clear hl hQ
      cases hb : bef (itAt l' j') (itAt l' p) with
      | false =>
        have fin : l' = upL f l j := by rw [← HU.out, upL, if_neg (by omega), HP.out, if_neg (by simp [hb])]
        have HF := Lib.hid fin
        clear fin
        go_wp2_with fail
        refine HL.out.mono ?_
        rintro e w1 ⟨rfl, hm⟩
        rw [hb]
        have HM1 : Hid (Mod [] wr w1) := hm
        clear hm
        go_wp2_with fail
        go_end0
        exact ⟨rfl, HF.out ▸ HQ.out.mod0 HM1.out, HM.out.trans HM1.out.nil⟩
      | true =>
        have fin : upL f'' (swapL l' p j') p = upL f l j := by rw [← HU.out, upL, if_neg (by omega), HP.out, if_pos hb]
        have HF := Lib.hid fin
        clear fin
        go_wp2_with fail
        refine HL.out.mono ?_
        rintro e w1 ⟨rfl, hm⟩
        rw [hb]
        have HM1 : Hid (Mod [] wr w1) := hm
        clear hm
        go_wp2_with fail
        refine (swap_any (HQ.out.mod0 HM1.out) p j' (by omega) hj').mono ?_
        rintro e w2 ⟨rfl, hq2, hm2⟩
        have HQ2 := Lib.hid hq2
        have HM2 := Lib.hid hm2
        clear hq2 hm2
        go_wp2_with fail
        go_roundw
        case rel => exact ⟨p, f'', swapL l' p j', rfl, by rw [swapL_length]; omega, by rw [swapL_length]; exact hl', by omega, HQ2, (HM.out.trans HM1.out.nil).trans HM2.out, HF⟩
        case measure => simp [intOf]; omega
end Go.Proofs.Ytekeondobdjppaa
