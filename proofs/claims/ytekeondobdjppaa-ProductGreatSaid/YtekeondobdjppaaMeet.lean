/- From both sides: walks of found and of meet. -/
import Derived.Test.YtekeondobdjppaaRoute
import Derived.Test.YtekeondobdjppaaBothL
namespace Go.Proofs.Ytekeondobdjppaa
open Go.RowKit

set_option maxRecDepth 100000 in
set_option maxHeartbeats 1000000 in
theorem found_calls {w : World} {sp cb eb fb q : Nat} {Fq Fg : List Nat} {fn : Value} {g n : Nat} {E : List Ed} {D : Dm} {st : St} {l : Int} (h : Se w sp cb eb fb q Fq Fg fn g n E D st l) (id : Nat) (x : Int) (hx : x = id) (hid : id < n * D.S) :
    Calls Try.prog 60 #[.pointer (some ⟨sp, 0, none⟩), .int .i64 x] w fun e w' => e = .returned (.int .i64 (fnd st id)) ∧ w = w' := by
  subst hx
  have c2 : w.cell? ⟨sp, 2, none⟩ = some (.pointer (some ⟨q, 0, none⟩)) := h.b.get rfl
  have c3 : w.cell? ⟨sp, 3, none⟩ = some (.slice (some ⟨cb, 0, none⟩) (n * D.S) (n * D.S)) := h.b.get rfl
  have cc : w.cell? ⟨cb, id, none⟩ = some (.int .i64 (st.c id)) := h.c.get (rowI_get hid)
  have z1 : sp < w.heap.size := h.b.lt
  have z2 : cb < w.heap.size := h.c.lt
  have b1 : (0 : Int) ≤ (id : Int) := by omega
  have b2 : (id : Int) < ((n * D.S : Nat) : Int) := by omega
  have HS := Lib.hid h
  have HI := Lib.hid hid
  clear h hid
  obtain ⟨N, hNN⟩ : ∃ N, n * D.S = N := ⟨_, rfl⟩
  rw [hNN] at c3 b2
  have HNN := Lib.hid hNN
  clear hNN
  by_cases hc : 0 ≤ st.c id
  · have HF := Lib.hid (fnd_c hc)
    go_enter Try.func60, Try.ntmps60
    go_wp2_with fail
    go_ret
    rw [HF.out]
    exact ⟨rfl, rfl⟩
  · have hd : decide (0 ≤ st.c id) = false := by simpa using hc
    cases hk : st.K id with
    | none =>
      have hf : fnd st id = -1 := by simp only [fnd, hk]; rw [if_neg hc]
      have hkc := key_calls HS.out.q id id rfl HI.out
      rw [hk] at hkc
      have HF := Lib.hid hf
      have HK := Lib.hid hkc
      clear hf hkc hk
      go_enter Try.func60, Try.ntmps60
      go_wp2_with fail
      refine HK.out.mono ?_
      rintro e w' ⟨rfl, rfl⟩
      go_wp2_with fail
      go_ret
      rw [HF.out]
      exact ⟨rfl, rfl⟩
    | some k =>
      have hf : fnd st id = k := by simp only [fnd, hk]; rw [if_neg hc]
      have hkc := key_calls HS.out.q id id rfl HI.out
      rw [hk] at hkc
      have HF := Lib.hid hf
      have HK := Lib.hid hkc
      clear hf hkc hk
      go_enter Try.func60, Try.ntmps60
      go_wp2_with fail
      refine HK.out.mono ?_
      rintro e w' ⟨rfl, rfl⟩
      go_wp2_with fail
      go_ret
      rw [HF.out]
      exact ⟨rfl, rfl⟩

set_option maxRecDepth 100000 in
set_option maxHeartbeats 1000000 in
theorem meet_raw {w : World} {k1 k2 k3 sp1 sp2 : Nat} {a b r : Int} (id : Int) (h1 : Blk w k1 77 [.pointer (some ⟨sp1, 0, none⟩)]) (h2 : Blk w k2 77 [.pointer (some ⟨sp2, 0, none⟩)]) (h3 : Blk w k3 3 [.int .i64 r])
    (f1 : ∀ W, Mod [] w W → Calls Try.prog 60 #[.pointer (some ⟨sp1, 0, none⟩), .int .i64 id] W fun e w' => e = .returned (.int .i64 a) ∧ W = w')
    (f2 : ∀ W, Mod [] w W → Calls Try.prog 60 #[.pointer (some ⟨sp2, 0, none⟩), .int .i64 id] W fun e w' => e = .returned (.int .i64 b) ∧ W = w')
    (ha : a ≤ 4000000000000000) (hb : b ≤ 4000000000000000) :
    Calls Try.prog 59 #[.int .i64 id, .pointer (some ⟨k1, 0, none⟩), .pointer (some ⟨k2, 0, none⟩), .pointer (some ⟨k3, 0, none⟩)] w fun e w' => e = .returned (.tuple #[]) ∧ Blk w' k3 3 [.int .i64 (meetV r a b)] ∧ Mod [k3] w w' := by
  have c1 : w.cell? ⟨k1, 0, none⟩ = some (.pointer (some ⟨sp1, 0, none⟩)) := h1.get rfl
  have c2 : w.cell? ⟨k2, 0, none⟩ = some (.pointer (some ⟨sp2, 0, none⟩)) := h2.get rfl
  have c3 : w.cell? ⟨k3, 0, none⟩ = some (.int .i64 r) := h3.get rfl
  have z1 := h1.lt
  have z2 := h2.lt
  have z3 := h3.lt
  have f3 := h3.frozen 0
  have H3 := Lib.hid h3
  have F1 := Lib.hid f1
  have F2 := Lib.hid f2
  clear h1 h2 h3 f1 f2
  go_enter Try.func59, Try.ntmps59
  go_wp2_with fail
  go_region_held3 (fun w' => w'.cell? ⟨k1, 0, none⟩ = some (.pointer (some ⟨sp1, 0, none⟩)) ∧ w'.cell? ⟨k2, 0, none⟩ = some (.pointer (some ⟨sp2, 0, none⟩))) (go_keep)
    (first
      | (go_at_call 60; with_reducible refine (F1.out _ ?_).mono ?_; exact (Mod.refl [] w).drew; rintro e w' ⟨rfl, rfl⟩)
      | (go_at_call 60; with_reducible refine (F2.out _ ?_).mono ?_; exact (Mod.refl [] w).drew; rintro e w' ⟨rfl, rfl⟩))
  by_cases h1 : 0 ≤ a
  · by_cases h2 : 0 ≤ b
    · by_cases h3 : r < 0
      · have e : meetV r a b = a + b := by simp only [meetV]; rw [if_pos ⟨h1, h2, Or.inl h3⟩]
        have EE := Lib.hid e
        clear e
        go_wp2_with fail
        go_end0
        rw [EE.out]
        exact ⟨rfl, H3.out.drew.set 0 _, (Mod.refl _ _).drew.setCell (Or.inl (by simp)) _⟩
      · have d3 : decide (r < 0) = false := by simpa using h3
        by_cases h4 : a + b < r
        · have e : meetV r a b = a + b := by simp only [meetV]; rw [if_pos ⟨h1, h2, Or.inr h4⟩]
          have EE := Lib.hid e
          clear e
          go_wp2_with fail
          go_end0
          rw [EE.out]
          exact ⟨rfl, H3.out.drew.set 0 _, (Mod.refl _ _).drew.setCell (Or.inl (by simp)) _⟩
        · have d4 : decide (a + b < r) = false := by simpa using h4
          have e : meetV r a b = r := by simp only [meetV]; rw [if_neg (fun h => by omega)]
          have EE := Lib.hid e
          clear e
          go_wp2_with fail
          go_end0
          rw [EE.out]
          exact ⟨rfl, H3.out.drew, (Mod.refl _ _).drew⟩
    · have d2 : decide (0 ≤ b) = false := by simpa using h2
      have e : meetV r a b = r := by simp only [meetV]; rw [if_neg (fun h => by omega)]
      have EE := Lib.hid e
      clear e
      go_wp2_with fail
      go_end0
      rw [EE.out]
      exact ⟨rfl, H3.out.drew, (Mod.refl _ _).drew⟩
  · have d1 : decide (0 ≤ a) = false := by simpa using h1
    have e : meetV r a b = r := by simp only [meetV]; rw [if_neg (fun h => by omega)]
    have EE := Lib.hid e
    clear e
    go_wp2_with fail
    go_end0
    rw [EE.out]
    exact ⟨rfl, H3.out.drew, (Mod.refl _ _).drew⟩

/-- Two searches over one network, one from each side, and the least that is known. -/
structure Bw (w : World) (k1 k2 k3 k4 s1 c1 e1 f1 q1 s2 c2 e2 f2 q2 : Nat) (Q1 Q2 Fg : List Nat) (g n : Nat) (E : List Ed) (D : Dm) (a b : St) (la lb r : Int) : Prop where
  A : Se w s1 c1 e1 f1 q1 Q1 Fg (.func (.func 45) #[] #[]) g n E D a la
  B : Se w s2 c2 e2 f2 q2 Q2 Fg (.func (.func 58) #[] #[]) g n E D b lb
  m1 : Blk w k1 77 [.pointer (some ⟨s1, 0, none⟩)]
  m2 : Blk w k2 77 [.pointer (some ⟨s2, 0, none⟩)]
  m3 : Blk w k3 3 [.int .i64 r]
  m4 : Blk w k4 111 [.pointer (some ⟨s1, 0, none⟩), .pointer (some ⟨s2, 0, none⟩)]
  ab : ∀ x ∈ seF s1 c1 e1 f1 Q1, x ∉ seF s2 c2 e2 f2 Q2
  n1 : ∀ x ∈ seF s1 c1 e1 f1 Q1, x ≠ k1 ∧ x ≠ k2 ∧ x ≠ k3 ∧ x ≠ k4
  n2 : ∀ x ∈ seF s2 c2 e2 f2 Q2, x ≠ k1 ∧ x ≠ k2 ∧ x ≠ k3 ∧ x ≠ k4
  ng : k3 ∉ Fg

section
variable {w w' : World} {k1 k2 k3 k4 s1 c1 e1 f1 q1 s2 c2 e2 f2 q2 : Nat} {Q1 Q2 Fg Q' : List Nat} {g n : Nat} {E : List Ed} {D : Dm} {a b st : St} {la lb l r : Int}
theorem seF_new {Q : List Nat} (hF : ∀ x ∈ Q', x ∈ Q ∨ w.heap.size ≤ x) {s c e f : Nat} : ∀ x ∈ seF s c e f Q', x ∈ seF s c e f Q ∨ w.heap.size ≤ x := by
  intro x hx
  rcases mem_seF.1 hx with h | h | h | h | h
  · exact Or.inl (by simp [seF, h])
  · exact Or.inl (by simp [seF, h])
  · exact Or.inl (by simp [seF, h])
  · exact Or.inl (by simp [seF, h])
  · rcases hF x h with h | h
    · exact Or.inl (by simp [seF, h])
    · exact Or.inr h
theorem se_far {G : List Nat} (h : Se w s1 c1 e1 f1 q1 Q1 Fg (.func (.func 45) #[] #[]) g n E D a la) : ∀ x ∈ seF s1 c1 e1 f1 Q1, x ∉ Fg ∨ x ∈ G := by
  intro x hx
  rcases mem_seF.1 hx with rfl | rfl | rfl | rfl | hx
  · exact Or.inl h.d.sg
  · exact Or.inl h.d.cg
  · exact Or.inl h.d.eg
  · exact Or.inl h.d.fg
  · exact Or.inl (h.d.qg x hx)
theorem Bw.mod0 (h : Bw w k1 k2 k3 k4 s1 c1 e1 f1 q1 s2 c2 e2 f2 q2 Q1 Q2 Fg g n E D a b la lb r) (hm : Mod [] w w') : Bw w' k1 k2 k3 k4 s1 c1 e1 f1 q1 s2 c2 e2 f2 q2 Q1 Q2 Fg g n E D a b la lb r :=
  ⟨h.A.mod0 hm, h.B.mod0 hm, hm.keep h.m1 (by simp), hm.keep h.m2 (by simp), hm.keep h.m3 (by simp), hm.keep h.m4 (by simp), h.ab, h.n1, h.n2, h.ng⟩
theorem Bw.one (h : Bw w k1 k2 k3 k4 s1 c1 e1 f1 q1 s2 c2 e2 f2 q2 Q1 Q2 Fg g n E D a b la lb r) (hs : Se w' s1 c1 e1 f1 q1 Q' Fg (.func (.func 45) #[] #[]) g n E D st l) (hm : Mod (seF s1 c1 e1 f1 Q1) w w') (hF : ∀ x ∈ Q', x ∈ Q1 ∨ w.heap.size ≤ x) :
    Bw w' k1 k2 k3 k4 s1 c1 e1 f1 q1 s2 c2 e2 f2 q2 Q' Q2 Fg g n E D st b l lb r := by
  have hn := seF_new (s := s1) (c := c1) (e := e1) (f := f1) hF
  have far : ∀ x ∈ Fg, x ∉ seF s1 c1 e1 f1 Q1 := fun x hx h1 => by
    rcases se_far (G := []) h.A x h1 with h2 | h2
    · exact h2 hx
    · simp at h2
  refine ⟨hs, h.B.mod hm (fun x hx h1 => h.ab x h1 hx) far, hm.keep h.m1 (fun h1 => (h.n1 _ h1).1 rfl), hm.keep h.m2 (fun h1 => (h.n1 _ h1).2.1 rfl), hm.keep h.m3 (fun h1 => (h.n1 _ h1).2.2.1 rfl), hm.keep h.m4 (fun h1 => (h.n1 _ h1).2.2.2 rfl), fun x hx h2 => ?_, fun x hx => ?_, h.n2, h.ng⟩
  · rcases hn x hx with h1 | h1
    · exact h.ab x h1 h2
    · have := h.B.lt x h2; omega
  · rcases hn x hx with h1 | h1
    · exact h.n1 x h1
    · have a1 := h.m1.lt
      have a2 := h.m2.lt
      have a3 := h.m3.lt
      have a4 := h.m4.lt
      omega
theorem Bw.two (h : Bw w k1 k2 k3 k4 s1 c1 e1 f1 q1 s2 c2 e2 f2 q2 Q1 Q2 Fg g n E D a b la lb r) (hs : Se w' s2 c2 e2 f2 q2 Q' Fg (.func (.func 58) #[] #[]) g n E D st l) (hm : Mod (seF s2 c2 e2 f2 Q2) w w') (hF : ∀ x ∈ Q', x ∈ Q2 ∨ w.heap.size ≤ x) :
    Bw w' k1 k2 k3 k4 s1 c1 e1 f1 q1 s2 c2 e2 f2 q2 Q1 Q' Fg g n E D a st la l r := by
  have hn := seF_new (s := s2) (c := c2) (e := e2) (f := f2) hF
  have far : ∀ x ∈ Fg, x ∉ seF s2 c2 e2 f2 Q2 := fun x hx h1 => by
    rcases mem_seF.1 h1 with rfl | rfl | rfl | rfl | h1
    · exact h.B.d.sg hx
    · exact h.B.d.cg hx
    · exact h.B.d.eg hx
    · exact h.B.d.fg hx
    · exact h.B.d.qg x h1 hx
  refine ⟨h.A.mod hm (fun x hx h1 => h.ab x hx h1) far, hs, hm.keep h.m1 (fun h1 => (h.n2 _ h1).1 rfl), hm.keep h.m2 (fun h1 => (h.n2 _ h1).2.1 rfl), hm.keep h.m3 (fun h1 => (h.n2 _ h1).2.2.1 rfl), hm.keep h.m4 (fun h1 => (h.n2 _ h1).2.2.2 rfl), fun x hx h2 => ?_, h.n1, fun x hx => ?_, h.ng⟩
  · rcases hn x h2 with h1 | h1
    · exact h.ab x hx h1
    · have := h.A.lt x hx; omega
  · rcases hn x hx with h1 | h1
    · exact h.n2 x h1
    · have a1 := h.m1.lt
      have a2 := h.m2.lt
      have a3 := h.m3.lt
      have a4 := h.m4.lt
      omega
theorem Bw.three {x : Int} (h : Bw w k1 k2 k3 k4 s1 c1 e1 f1 q1 s2 c2 e2 f2 q2 Q1 Q2 Fg g n E D a b la lb r) (hb : Blk w' k3 3 [.int .i64 x]) (hm : Mod [k3] w w') : Bw w' k1 k2 k3 k4 s1 c1 e1 f1 q1 s2 c2 e2 f2 q2 Q1 Q2 Fg g n E D a b la lb x := by
  have n3 : k1 ≠ k3 := h.m1.ne h.m3 (by decide)
  have n4 : k2 ≠ k3 := h.m2.ne h.m3 (by decide)
  have n5 : k4 ≠ k3 := h.m4.ne h.m3 (by decide)
  have far : ∀ x ∈ Fg, x ∉ [k3] := fun x hx h1 => by
    simp only [List.mem_singleton] at h1
    subst h1
    exact h.ng hx
  exact ⟨h.A.mod hm (fun x hx h1 => (h.n1 x hx).2.2.1 (by simpa using h1)) far, h.B.mod hm (fun x hx h1 => (h.n2 x hx).2.2.1 (by simpa using h1)) far, hm.keep h.m1 (by simpa using n3), hm.keep h.m2 (by simpa using n4), hb, hm.keep h.m4 (by simpa using n5), h.ab, h.n1, h.n2, h.ng⟩

/-- A spot is met. -/
theorem Bw.meet (h : Bw w k1 k2 k3 k4 s1 c1 e1 f1 q1 s2 c2 e2 f2 q2 Q1 Q2 Fg g n E D a b la lb r) (id : Nat) (x : Int) (hx : x = id) (hid : id < n * D.S) (ha : fnd a id ≤ 4000000000000000) (hb : fnd b id ≤ 4000000000000000) :
    Calls Try.prog 59 #[.int .i64 x, .pointer (some ⟨k1, 0, none⟩), .pointer (some ⟨k2, 0, none⟩), .pointer (some ⟨k3, 0, none⟩)] w fun e w' => e = .returned (.tuple #[]) ∧ Bw w' k1 k2 k3 k4 s1 c1 e1 f1 q1 s2 c2 e2 f2 q2 Q1 Q2 Fg g n E D a b la lb (meetV r (fnd a id) (fnd b id)) ∧ Mod [k3] w w' := by
  subst hx
  refine (meet_raw _ h.m1 h.m2 h.m3 (fun W hW => found_calls (h.A.mod0 hW) id _ rfl hid) (fun W hW => found_calls (h.B.mod0 hW) id _ rfl hid) ha hb).mono ?_
  rintro e w' ⟨rfl, hb, hm⟩
  exact ⟨rfl, h.three hb hm, hm⟩
end
end Go.Proofs.Ytekeondobdjppaa
