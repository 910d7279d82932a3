/- A queue by its keys: Put, Pop, Key. -/
import Derived.Test.YtekeondobdjppaaQueue
namespace Go.Proofs.Ytekeondobdjppaa
open Go.RowKit

theorem method_place (a : Addr) (w : World) : (method 348 220 (.pointer (some a)) "milestone/queue.place").run Try.prog w = .ok (163, .pointer (some a)) w := by kernel_rfl

def updK (K : Nat → Option Int) (id : Nat) (key : Int) : Nat → Option Int := fun i => if i = id then some key else K i
def putB (K : Nat → Option Int) (id : Nat) (key : Int) : Bool := match K id with | none => true | some k => decide (key < k)
def putK (K : Nat → Option Int) (id : Nat) (key : Int) : Nat → Option Int := if putB K id key = true then updK K id key else K
def delK (K : Nat → Option Int) (id : Nat) : Nat → Option Int := fun i => if i = id then none else K i

set_option maxRecDepth 100000 in
set_option maxHeartbeats 1000000 in
theorem put_new {q ab n : Nat} {iv : Value} {l : List It} {w : World} (h : QS w q iv ab n l) (id : Nat) (key : Int) (hid : id < n) (hno : ∀ x ∈ l, x.1 ≠ id) :
    Calls Try.prog 83 #[.pointer (some ⟨q, 0, none⟩), .int .i64 id, .int .i64 key] w fun e w' => e = .returned (.bool true) ∧
      ∃ iv', QS w' q iv' ab n (upL l.length (l ++ [(id, key)]) l.length) ∧ Mod (qf q iv ab) w w' ∧ (∀ b ∈ qf q iv' ab, b ∈ qf q iv ab ∨ w.heap.size ≤ b) := by
  have hm1 := method_place
  have hn : n ≤ 1000000 := by obtain ⟨_, _, _, _, _, hn⟩ := h; exact hn
  have c1 : w.cell? ⟨q, 1, none⟩ = some (.slice (some ⟨ab, 0, none⟩) n n) := by obtain ⟨_, hq, _⟩ := h; exact hq.get rfl
  have b1 : (0 : Int) ≤ (id : Int) := by omega
  have b2 : (id : Int) < (n : Int) := by omega
  have H := Lib.hid h
  have HN := Lib.hid hno
  clear h hno
  go_enter Try.func83, Try.ntmps83
  go_wp2_with (go_at_call 114; refine (line_calls q _).mono ?_; rintro e w1 ⟨rfl, rfl⟩)
  refine (place_none H.out id hid HN.out).mono ?_
  rintro e w2 ⟨rfl, rfl⟩
  go_wp2_with fail
  refine (heapPush_calls H.out id key hid HN.out).mono ?_
  rintro e w3 ⟨rfl, iv3, hq, hm, hf⟩
  have HQ := Lib.hid hq
  have HM := Lib.hid hm
  have HF := Lib.hid hf
  clear hq hm hf
  go_wp2_with fail
  go_ret
  exact ⟨rfl, iv3, HQ.out, HM.out, HF.out⟩

set_option maxRecDepth 100000 in
set_option maxHeartbeats 1000000 in
theorem put_not {q ab n : Nat} {iv : Value} {l : List It} {w : World} (h : QS w q iv ab n l) (i : Nat) (id : Nat) (k key : Int) (hi : l[i]? = some (id, k)) (hk : k ≤ key) :
    Calls Try.prog 83 #[.pointer (some ⟨q, 0, none⟩), .int .i64 id, .int .i64 key] w fun e w' => e = .returned (.bool false) ∧ w = w' := by
  have hm1 := method_place
  have hln := h.len
  have hil := (List.getElem?_eq_some_iff.1 hi).1
  have H := Lib.hid h
  obtain ⟨ats, hq, hab, hown, hat, hn⟩ := h
  obtain ⟨ib, cap, rfl⟩ := own_form hown (by omega)
  obtain ⟨cur, hib, htake, hcl, hnc, hcm, _⟩ := own_get hown
  have hid := (hat.pos i _ hi).1
  have c1 : w.cell? ⟨q, 1, none⟩ = some (.slice (some ⟨ab, 0, none⟩) n n) := hq.get rfl
  have c0 : w.cell? ⟨q, 0, none⟩ = some (.slice (some ⟨ib, 0, none⟩) l.length cap) := hq.get rfl
  have c2 : w.cell? ⟨ib, i * 2 + 1, none⟩ = some (.int .i64 k) := by
    have := (flat_get l i _ hi).2
    rw [← htake, List.getElem?_take] at this
    split at this
    · exact hib.get this
    · cases this
  have b1 : (0 : Int) ≤ (id : Int) := by omega
  have b2 : (id : Int) < (n : Int) := by simp only at hid; omega
  have b3 : (0 : Int) ≤ (i : Int) := by omega
  have b4 : (i : Int) < (l.length : Int) := by omega
  have HI := Lib.hid hi
  clear hq hab hown hat hib htake hcl hi hcm
  go_enter Try.func83, Try.ntmps83
  go_wp2_with (go_at_call 114; refine (line_calls q _).mono ?_; rintro e w1 ⟨rfl, rfl⟩)
  refine (place_calls H.out i (id, k) HI.out).mono ?_
  rintro e w2 ⟨rfl, rfl⟩
  go_wp2_with fail
  go_ret
  exact ⟨rfl, rfl⟩

set_option maxRecDepth 100000 in
set_option maxHeartbeats 1000000 in
theorem put_less {q ab n : Nat} {iv : Value} {l : List It} {w : World} (h : QS w q iv ab n l) (i : Nat) (id : Nat) (k key : Int) (hi : l[i]? = some (id, k)) (hk : key < k) (hd : downL l.length (l.set i (id, key)) i l.length = (l.set i (id, key), i)) :
    Calls Try.prog 83 #[.pointer (some ⟨q, 0, none⟩), .int .i64 id, .int .i64 key] w fun e w' => e = .returned (.bool true) ∧ QS w' q iv ab n (upL i (l.set i (id, key)) i) ∧ Mod (qf q iv ab) w w' := by
  have hm1 := method_place
  have hln := h.len
  have hil := (List.getElem?_eq_some_iff.1 hi).1
  have H := Lib.hid h
  obtain ⟨ats, hq, hab, hown, hat, hn⟩ := h
  obtain ⟨ib, cap, rfl⟩ := own_form hown (by omega)
  obtain ⟨cur, hib, htake, hcl, hnc, hcm, _⟩ := own_get hown
  have hid := (hat.pos i _ hi).1
  have c1 : w.cell? ⟨q, 1, none⟩ = some (.slice (some ⟨ab, 0, none⟩) n n) := hq.get rfl
  have c0 : w.cell? ⟨q, 0, none⟩ = some (.slice (some ⟨ib, 0, none⟩) l.length cap) := hq.get rfl
  have c2 : w.cell? ⟨ib, i * 2 + 1, none⟩ = some (.int .i64 k) := by
    have := (flat_get l i _ hi).2
    rw [← htake, List.getElem?_take] at this
    split at this
    · exact hib.get this
    · cases this
  have e1 : q ≠ ib := hq.ne hib (by decide)
  have e3 : ib ≠ ab := hib.ne hab (by decide)
  have f2 := hib.frozen (i * 2 + 1)
  have hb0 : ((flat l).set (i * 2) (.int .i64 id)) = flat l := set_same (flat_get l i _ hi).1
  have hq2 : QS (w.setCell ⟨ib, i * 2 + 1, none⟩ (.int .i64 key)) q (.slice (some ⟨ib, 0, none⟩) l.length cap) ab n (l.set i (id, key)) := by
    refine ⟨ats, hq.far e1 _, hab.far (Ne.symm e3) _, ?_, ⟨hat.len, ?_, ?_⟩, hn⟩
    · have := own_mk (base := 0) (cap := cap) (xs := flat (l.set i (id, key))) (n := l.length) (size := 2) (hib.set (i * 2 + 1) (.int .i64 key)) (by rw [List.take_set, htake, flat_set, hb0]) (by simpa using hcl) hnc hcm (Nat.zero_le _)
      rw [List.length_set]; exact this
    · intro j x hj
      by_cases e : i = j
      · subst e
        rw [List.getElem?_set_self hil] at hj
        obtain rfl := Option.some.inj hj
        have := hat.pos i (id, k) hi
        exact this
      · rw [List.getElem?_set_ne e] at hj
        exact hat.pos j x hj
    · intro a ha
      rcases hat.rest a ha with h' | ⟨j, x, hj, hx⟩
      · exact .inl h'
      · by_cases e : i = j
        · subst e
          rw [hi] at hj
          obtain rfl := Option.some.inj hj
          exact .inr ⟨i, (id, key), List.getElem?_set_self hil, hx⟩
        · exact .inr ⟨j, x, by rw [List.getElem?_set_ne e]; exact hj, hx⟩
  have hm2 : Mod (qf q (.slice (some ⟨ib, 0, none⟩) l.length cap) ab) w (w.setCell ⟨ib, i * 2 + 1, none⟩ (.int .i64 key)) := (Mod.refl _ _).setCell (Or.inl (by simp [qf, Value.ownBlock])) _
  have HQ2 := Lib.hid hq2
  have HM2 := Lib.hid hm2
  have b1 : (0 : Int) ≤ (id : Int) := by omega
  have b2 : (id : Int) < (n : Int) := by simp only at hid; omega
  have b3 : (0 : Int) ≤ (i : Int) := by omega
  have b4 : (i : Int) < (l.length : Int) := by omega
  have HI := Lib.hid hi
  have HD := Lib.hid hd
  clear hq hab hown hat hib htake hcl hi hcm hq2 hm2 hb0 hd
  go_enter Try.func83, Try.ntmps83
  go_wp2_with (go_at_call 114; refine (line_calls q _).mono ?_; rintro e w1 ⟨rfl, rfl⟩)
  refine (place_calls H.out i (id, k) HI.out).mono ?_
  rintro e w2 ⟨rfl, rfl⟩
  go_wp2_with fail
  refine (heapFix_calls HQ2.out i (by rw [List.length_set]; exact hil) (by rw [List.length_set]; exact HD.out)).mono ?_
  rintro e w3 ⟨rfl, hq3, hm3⟩
  have HQ3 := Lib.hid hq3
  have HM3 := Lib.hid hm3
  clear hq3 hm3
  go_wp2_with fail
  go_ret
  exact ⟨rfl, HQ3.out, HM2.out.trans HM3.out⟩

/-- An id waits by a key. -/
theorem put_calls {w : World} {F : List Nat} {q n : Nat} {K : Nat → Option Int} (h : Qu w F q n K) (id : Nat) (a key : Int) (ha : a = id) (hid : id < n) :
    Calls Try.prog 83 #[.pointer (some ⟨q, 0, none⟩), .int .i64 a, .int .i64 key] w fun e w' => e = .returned (.bool (putB K id key)) ∧
      ∃ F', Qu w' F' q n (putK K id key) ∧ Mod F w w' ∧ ∀ b ∈ F', b ∈ F ∨ w.heap.size ≤ b := by
  subst ha
  obtain ⟨iv, ab, l, rfl, hq, hh, hK⟩ := h
  cases hk : K id with
  | none =>
    have hno : ∀ x ∈ l, x.1 ≠ id := fun x hx e => by
      obtain ⟨x, k⟩ := x
      simp only at e
      subst e
      rw [(hK x k).2 hx] at hk
      cases hk
    refine (put_new hq id key hid hno).mono ?_
    rintro e w' ⟨rfl, iv', hq', hm, hf⟩
    obtain ⟨h1, h2, h3⟩ := push_heap hh (id, key)
    refine ⟨by simp [putB, hk], _, ⟨iv', ab, _, rfl, hq', by rw [h2]; exact h1, fun i k => ?_⟩, hm, hf⟩
    rw [h3.mem_iff]
    simp only [putK, putB, hk, if_true, updK, List.mem_append, List.mem_singleton, Prod.mk.injEq]
    by_cases e : i = id
    · subst e
      rw [if_pos rfl]
      constructor
      · intro e; exact .inr ⟨rfl, (Option.some.inj e).symm⟩
      · rintro (e | ⟨_, e⟩)
        · exact absurd rfl (hno _ e)
        · rw [e]
    · rw [if_neg e, hK]
      simp [e]
  | some k =>
    obtain ⟨i, hi⟩ := List.getElem?_of_mem ((hK id k).1 hk)
    by_cases hlt : key < k
    · have hb : bef (itAt l i) (id, key) = false := by rw [itAt_of hi]; exact bef_false.2 (by simp only; omega)
      have hil := (List.getElem?_eq_some_iff.1 hi).1
      obtain ⟨g1, g2, g3, g4⟩ := fix_heap hh i hil (id, key) hb
      refine (put_less hq i id k key hi hlt g1).mono ?_
      rintro e w' ⟨rfl, hq', hm⟩
      refine ⟨by simp [putB, hk, hlt], _, ⟨iv, ab, _, rfl, hq', by rw [g3]; exact g2, fun j m => ?_⟩, hm, fun b hb => .inl hb⟩
      rw [g4.mem_iff]
      obtain ⟨ats, _, _, _, hat, _⟩ := hq
      simp only [putK, putB, hk, hlt, decide_true, if_true, updK]
      by_cases e : j = id
      · subst e
        rw [if_pos rfl]
        constructor
        · intro e; rw [← Option.some.inj e]
          exact List.mem_of_getElem? (List.getElem?_set_self hil)
        · intro hm
          obtain ⟨p, hp⟩ := List.getElem?_of_mem hm
          by_cases e2 : i = p
          · subst e2
            rw [List.getElem?_set_self hil] at hp
            have := Option.some.inj hp
            simp only [Prod.mk.injEq] at this
            rw [this.2]
          · rw [List.getElem?_set_ne e2] at hp
            exact absurd (hat.inj hi hp rfl) e2
      · rw [if_neg e, hK]
        constructor
        · intro hm
          obtain ⟨p, hp⟩ := List.getElem?_of_mem hm
          have e2 : i ≠ p := fun e2 => e (by subst e2; rw [hi] at hp; have := Option.some.inj hp; simp only [Prod.mk.injEq] at this; exact this.1.symm)
          exact List.mem_of_getElem? (by rw [List.getElem?_set_ne e2]; exact hp)
        · intro hm
          obtain ⟨p, hp⟩ := List.getElem?_of_mem hm
          by_cases e2 : i = p
          · subst e2
            rw [List.getElem?_set_self hil] at hp
            have := Option.some.inj hp
            simp only [Prod.mk.injEq] at this
            exact absurd this.1.symm e
          · rw [List.getElem?_set_ne e2] at hp
            exact List.mem_of_getElem? hp
    · refine (put_not hq i id k key hi (by omega)).mono ?_
      rintro e w' ⟨rfl, rfl⟩
      refine ⟨by simp [putB, hk, hlt], _, ⟨iv, ab, l, rfl, hq, hh, ?_⟩, Mod.refl _ _, fun b hb => .inl hb⟩
      simpa [putK, putB, hk, hlt] using hK
end Go.Proofs.Ytekeondobdjppaa
