/- container/heap's Push, Pop, Fix over a queue. -/
import Derived.Test.YtekeondobdjppaaQWalkD
import Derived.Test.YtekeondobdjppaaQWalkF
namespace Go.Proofs.Ytekeondobdjppaa
open Go.RowKit

theorem up_int {q ab n : Nat} {iv : Value} {l : List It} {w : World} (h : QS w q iv ab n l) (f j : Nat) (a : Int) (ha : a = j) (hj : j < l.length) (hf : j ≤ f) :
    Calls Try.prog 130 #[qline q, .int .i64 a] w fun e w' => e = .returned (.tuple #[]) ∧ QS w' q iv ab n (upL f l j) ∧ Mod (qf q iv ab) w w' := by
  subst ha; exact up_calls h f j hj hf
theorem down_int {q ab n : Nat} {iv : Value} {l : List It} {w : World} (h : QS w q iv ab n l) (f i m : Nat) (a b : Int) (ha : a = i) (hb : b = m) (hi : i ≤ l.length) (hm : m ≤ l.length) (hf : m ≤ i + f) :
    Calls Try.prog 131 #[qline q, .int .i64 a, .int .i64 b] w fun e w' => e = .returned (.bool (decide (i < (downL f l i m).2))) ∧ QS w' q iv ab n (downL f l i m).1 ∧ Mod (qf q iv ab) w w' := by
  subst ha; subst hb; exact down_calls h f i m hi hm hf

set_option maxRecDepth 100000 in
set_option maxHeartbeats 1000000 in
theorem heapPush_calls {q ab n : Nat} {iv : Value} {l : List It} {w : World} (h : QS w q iv ab n l) (id : Nat) (key : Int) (hid : id < n) (hno : ∀ x ∈ l, x.1 ≠ id) :
    Calls Try.prog 115 #[qline q, .iface 201 (.agg #[.int .i64 id, .int .i64 key])] w fun e w' => e = .returned (.tuple #[]) ∧
      ∃ iv', QS w' q iv' ab n (upL l.length (l ++ [(id, key)]) l.length) ∧ Mod (qf q iv ab) w w' ∧ (∀ b ∈ qf q iv' ab, b ∈ qf q iv ab ∨ w.heap.size ≤ b) := by
  have hm1 := method_push
  have hm2 := method_len
  have hln := h.len
  have hn : n ≤ 1000000 := by obtain ⟨_, _, _, _, _, hn⟩ := h; exact hn
  have H := Lib.hid h
  have HN := Lib.hid hno
  clear h hno
  go_enter Try.func115, Try.ntmps115
  go_wp2_with fail
  refine (push_calls H.out id key hid HN.out).mono ?_
  rintro e w1 ⟨rfl, iv1, hq1, hm, hf⟩
  have HQ1 := Lib.hid hq1
  have HM := Lib.hid hm
  have HF := Lib.hid hf
  clear hq1 hm hf
  go_wp2_with fail
  refine (len_calls HQ1.out).mono ?_
  rintro e w2 ⟨rfl, rfl⟩
  have hlen : (l ++ [(id, key)]).length = l.length + 1 := by simp
  rw [hlen]
  clear hlen
  go_wp2_with fail
  refine (up_int HQ1.out l.length l.length _ (by omega) (by simp) (Nat.le_refl _)).mono ?_
  rintro e w3 ⟨rfl, hq3, hm3⟩
  have HQ3 := Lib.hid hq3
  have HM3 := Lib.hid hm3
  clear hq3 hm3
  go_wp2_with fail
  go_end0
  exact ⟨rfl, iv1, HQ3.out, HM.out.then HM3.out HF.out, HF.out⟩

set_option maxRecDepth 100000 in
set_option maxHeartbeats 1000000 in
theorem heapPop_calls {q ab n : Nat} {iv : Value} {l : List It} {w : World} (h : QS w q iv ab n l) (h0 : 0 < l.length) :
    Calls Try.prog 127 #[qline q] w fun e w' => e = .returned (.iface 201 (.agg #[.int .i64 (itAt (popL l) (l.length - 1)).1, .int .i64 (itAt (popL l) (l.length - 1)).2])) ∧
      ∃ iv', QS w' q iv' ab n ((popL l).take (l.length - 1)) ∧ Mod (qf q iv ab) w w' ∧ (∀ b ∈ qf q iv' ab, b ∈ qf q iv ab ∨ w.heap.size ≤ b) := by
  have hm1 := method_pop
  have hm2 := method_len
  have hm3 := method_swap
  have hln := h.len
  have hn : n ≤ 1000000 := by obtain ⟨_, _, _, _, _, hn⟩ := h; exact hn
  have H := Lib.hid h
  clear h
  go_enter Try.func127, Try.ntmps127
  go_wp2_with fail
  refine (len_calls H.out).mono ?_
  rintro e w2 ⟨rfl, rfl⟩
  go_wp2_with fail
  refine (swap_int H.out 0 (l.length - 1) _ _ (by omega) (by omega) (by omega) (by omega)).mono ?_
  rintro e w3 ⟨rfl, hq, hm⟩
  have HQ := Lib.hid hq
  have HM := Lib.hid hm
  clear hq hm
  go_wp2_with fail
  refine (down_int HQ.out (l.length - 1) 0 (l.length - 1) _ _ (by omega) (by omega) (by omega) (by rw [swapL_length]; omega) (by omega)).mono ?_
  rintro e w4 ⟨rfl, hq, hm⟩
  have HQ4 : Hid (QS w4 q iv ab n (popL l)) := hq
  have HM4 := Lib.hid hm
  clear hq hm
  go_wp2_with fail
  have hlen : (popL l).length = l.length - 1 + 1 := by
    have e : ∀ (f : Nat) (l : List It) (i m : Nat), m ≤ l.length → (downL f l i m).1.length = l.length := by
      intro f
      induction f with
      | zero => intro l i m _; rfl
      | succ f ih => intro l i m hm; unfold downL; split
                     · split
                       · rw [ih _ _ _ (by rw [swapL_length]; exact hm), swapL_length]
                       · rfl
                     · rfl
    rw [popL, e _ _ _ _ (by rw [swapL_length]; omega), swapL_length]; omega
  refine (pop_calls HQ4.out hlen).mono ?_
  clear hlen
  rintro e w5 ⟨rfl, iv5, hq5, hm5, hf5⟩
  have HQ5 := Lib.hid hq5
  have HM5 := Lib.hid hm5
  have HF5 := Lib.hid hf5
  clear hq5 hm5 hf5
  go_wp2_with fail
  go_ret
  exact ⟨rfl, iv5, HQ5.out, (HM.out.trans HM4.out).trans HM5.out, fun b hb => (HF5.out b hb).imp (fun h => h) (fun h => Nat.le_trans (Nat.le_trans HM.out.size HM4.out.size) h)⟩

set_option maxRecDepth 100000 in
set_option maxHeartbeats 1000000 in
/-- Where down does nothing. -/
theorem heapFix_calls {q ab n : Nat} {iv : Value} {l : List It} {w : World} (h : QS w q iv ab n l) (p : Nat) (hp : p < l.length) (hd : downL l.length l p l.length = (l, p)) :
    Calls Try.prog 116 #[qline q, .int .i64 p] w fun e w' => e = .returned (.tuple #[]) ∧ QS w' q iv ab n (upL p l p) ∧ Mod (qf q iv ab) w w' := by
  have hm2 := method_len
  have hln := h.len
  have hn : n ≤ 1000000 := by obtain ⟨_, _, _, _, _, hn⟩ := h; exact hn
  have H := Lib.hid h
  have HD := Lib.hid hd
  clear h hd
  go_enter Try.func116, Try.ntmps116
  go_wp2_with fail
  refine (len_calls H.out).mono ?_
  rintro e w2 ⟨rfl, rfl⟩
  go_wp2_with fail
  refine (down_int H.out l.length p l.length _ _ rfl rfl (by omega) (by omega) (by omega)).mono ?_
  rintro e w4 ⟨rfl, hq, hm⟩
  rw [HD.out] at hq ⊢
  have HQ := Lib.hid hq
  have HM := Lib.hid hm
  clear hq hm
  have hb : decide (p < p) = false := by simp
  simp only [hb]
  go_wp2_with fail
  refine (up_int HQ.out p p _ rfl hp (Nat.le_refl _)).mono ?_
  rintro e w5 ⟨rfl, hq, hm⟩
  have HQ5 := Lib.hid hq
  have HM5 := Lib.hid hm
  clear hq hm
  go_wp2_with fail
  go_end0
  exact ⟨rfl, HQ5.out, HM.out.trans HM5.out⟩
end Go.Proofs.Ytekeondobdjppaa
