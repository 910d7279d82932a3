/- One item more, at the end; the last item taken: walks. -/
import Derived.Test.YtekeondobdjppaaQWalkA
import Derived.Test.YtekeondobdjppaaQWalkB
import Derived.Deep.RegionLaw
import Derived.KernelRfl
namespace Go.Proofs.Ytekeondobdjppaa
open Go.RowKit

theorem appItem : AppT Try.prog 191 201 (.agg #[.int .i64 0, .int .i64 0]) 2 16 := AppT.mk' (by kernel_rfl) (by kernel_rfl) rfl (by decide)

theorem assert_item (v : Value) (w : World) : (Instr.typeAssert (.iface 201 v) 20 201 true).run Try.prog w = .ok (.tuple #[v, .bool true]) w := by kernel_rfl

theorem cell_ad {w : World} {a : Addr} {v : Value} (h : w.cell? a = some v) (o : Obj) : (w.alloc o).drew.cell? a = some v := (((Mod.refl [] w).alloc o).drew).cell h (by simp)
theorem frozen_mod {F : List Nat} {w w' : World} (h : Mod F w w') {a : Addr} {v : Value} (hc : w.cell? a = some v) (hF : a.block ∉ F) (hf : w.frozen? a = false) : w'.frozen? a = false :=
  (World.frozen?_of_block (w := w) (h.block a.block (World.block_lt_of_cell? w a hc) hF)).trans hf

set_option maxRecDepth 100000 in
set_option maxHeartbeats 2000000 in
theorem push_raw (q ab n m : Nat) (A : Option Addr) (cap : Nat) (id : Nat) (key : Int) (xs : List Value) (u : Value) (w : World) (hid : id < m) (hn : n < 1000000000) (hqa : q ≠ ab)
    (hqs : q < w.heap.size) (has : ab < w.heap.size) (hA1 : some q ≠ (Value.slice A n cap).ownBlock) (hA2 : some ab ≠ (Value.slice A n cap).ownBlock)
    (hq : w.cell? ⟨q, 0, none⟩ = some (.slice A n cap)) (hq1 : w.cell? ⟨q, 1, none⟩ = some (.slice (some ⟨ab, 0, none⟩) m m)) (hu : w.cell? ⟨ab, id, none⟩ = some u)
    (f0 : w.frozen? ⟨q, 0, none⟩ = false) (f1 : ∀ o, w.frozen? ⟨ab, o, none⟩ = false)
    (HO : Hid (w.ownsRow 0 201 2 (.slice A n cap) n xs)) :
    Calls Try.prog 161 #[.pointer (some ⟨q, 0, none⟩), .iface 201 (.agg #[.int .i64 id, .int .i64 key])] w fun e w' => e = .returned (.tuple #[]) ∧
      ∃ g cap' W1, W1.ownsRow 0 201 2 (.slice (some ⟨g, 0, none⟩) (n + 1) cap') (n + 1) (xs ++ [.int .i64 id, .int .i64 key]) ∧
        Mod (Value.slice A n cap).ownBlock.toList (w.setCell ⟨ab, id, none⟩ (.int .i64 n)) W1 ∧ w' = W1.setCell ⟨q, 0, none⟩ (.slice (some ⟨g, 0, none⟩) (n + 1) cap') ∧ ((Value.slice A n cap).ownBlock = some g ∨ w.heap.size ≤ g) := by
  have b1 : (0 : Int) ≤ (id : Int) := by omega
  have b2 : (id : Int) < (m : Int) := by omega
  have e1 : q ≠ w.heap.size := by omega
  have e2 : ab ≠ w.heap.size := by omega
  have ta := assert_item
  have HA1 := Lib.hid hA1
  have HA2 := Lib.hid hA2
  clear hA1 hA2
  go_enter Try.func161, Try.ntmps161
  go_wp2
  go_region
  go_wp2
  obtain ⟨W, hW⟩ : ∃ W, ((w.setCell ⟨ab, id, none⟩ (.int .i64 n)).alloc (.cells #[.int .i64 id, .int .i64 key] 201)).drew = W := ⟨_, rfl⟩
  rw [hW]
  have hz : (w.setCell ⟨ab, id, none⟩ (.int .i64 n)).heap.size = w.heap.size := by simp [World.setCell]
  have hB : Blk W w.heap.size 201 [.int .i64 id, .int .i64 key] := by
    have := (Blk.new (w.setCell ⟨ab, id, none⟩ (.int .i64 n)) #[.int .i64 id, .int .i64 key] 201).drew
    rw [hz, hW] at this
    exact this
  have k0 : W.cell? ⟨w.heap.size, 0, none⟩ = some (.int .i64 id) := hB.get rfl
  have k1 : W.cell? ⟨w.heap.size, 1, none⟩ = some (.int .i64 key) := hB.get rfl
  have hM0 : Mod [] (w.setCell ⟨ab, id, none⟩ (.int .i64 n)) W := by rw [← hW]; exact ((Mod.refl _ _).alloc _).drew
  have hM : Mod [ab] w W := ((Mod.refl [ab] w).setCell (Or.inl (by simp)) _).trans hM0.nil
  have q0 := hM.cell hq (by simpa using hqa)
  have fq : W.frozen? ⟨q, 0, none⟩ = false := frozen_mod hM hq (by simpa using hqa) f0
  have HOW : Hid (W.ownsRow 0 201 2 (.slice A n cap) n xs) := hM.own HO.out (by
    intro k hk e
    simp only [List.mem_singleton] at e
    subst e
    exact HA2.out hk.symm)
  have HM := Lib.hid hM0
  have HB := Lib.hid hB
  have HW : Hid (w.heap.size ≤ W.heap.size) := hM.size
  have hqW : q < W.heap.size := World.block_lt_of_cell? W _ q0
  clear hW hM hM0 hB hq hq1 hu f1 f0 hz
  go_region_law ((refine step_app (by rfl) (.tmp 28) (.tmp 30) 191 (by rfl) appItem (.slice A n cap) n xs (by rfl) (own_alloc HOW.out _) (W.heap.size) 201 1 [.int .i64 id, .int .i64 key] (by rfl) rfl (Blk.new W #[.int .i64 id, .int .i64 key] 201) (by simp [Value.oneCell']) (by omega) (by omega) ?_; intro g cap1 w1 ho hg hat hlt; have q1 := hg.cell (cell_ad q0 _) HA1.out; have fq1 := ((hg.frozen_far ⟨q, 0, none⟩ (World.block_lt_of_cell? _ _ (cell_ad q0 _)) HA1.out).trans (frozen_mod (((Mod.refl [] W).alloc (.cells #[.int .i64 id, .int .i64 key] 201)).drew) q0 (by simp) fq)); have HO1 := Lib.hid ho; have HG := Lib.hid hg; have HT := Lib.hid hat; clear ho hg hat))
  all_goals go_wp2
  all_goals go_end0
  all_goals
    have hg := HG.out
    have hm := HM.out
    have hw := HW.out
    have hb : (W.alloc (.cells #[.int .i64 id, .int .i64 key] 201)).drew.heap.size = W.heap.size + 1 := by simp
    refine ⟨rfl, g, cap1, w1, HO1.out, hm.nil.trans ((((Mod.refl _ W).alloc _).drew).grown hg (fun k hk => Or.inl (by simp [hk]))), rfl, HT.out.imp (fun h => h) (fun e => ?_)⟩
    rw [e, hb]; omega

theorem toList_own {v : Value} {k : Nat} : k ∈ v.ownBlock.toList ↔ v.ownBlock = some k := by cases v.ownBlock <;> simp [eq_comm]

/-- One item more. -/
theorem push_calls {q ab n : Nat} {iv : Value} {l : List It} {w : World} (h : QS w q iv ab n l) (id : Nat) (key : Int) (hid : id < n) (hno : ∀ x ∈ l, x.1 ≠ id) :
    Calls Try.prog 161 #[.pointer (some ⟨q, 0, none⟩), .iface 201 (.agg #[.int .i64 id, .int .i64 key])] w fun e w' => e = .returned (.tuple #[]) ∧
      ∃ iv', QS w' q iv' ab n (l ++ [(id, key)]) ∧ Mod (qf q iv ab) w w' ∧ (∀ b ∈ qf q iv' ab, b ∈ qf q iv ab ∨ w.heap.size ≤ b) := by
  have hln := h.len
  obtain ⟨ats, hq, hab, hown, hat, hn⟩ := h
  obtain ⟨A, cap, rfl⟩ := own_any hown
  have e2 : q ≠ ab := hq.ne hab (by decide)
  have nA1 : ∀ k, (Value.slice A l.length cap).ownBlock = some k → k ≠ q := own_ne_block hown hq (by decide)
  have nA2 : ∀ k, (Value.slice A l.length cap).ownBlock = some k → k ≠ ab := own_ne_block hown hab (by decide)
  have hpos : ats[id]? = some (-1) := by
    rcases hat.rest id hid with h' | ⟨i, x, hi, hx⟩
    · exact h'
    · exact absurd hx (hno x (List.mem_of_getElem? hi))
  refine (push_raw q ab l.length n A cap id key (flat l) _ w hid (by omega) e2 hq.lt hab.lt (fun e => nA1 q e.symm rfl) (fun e => nA2 ab e.symm rfl) (hq.get rfl) (hq.get rfl) (hab.get (ints_get hpos)) (hq.frozen 0) hab.frozen hown).mono ?_
  rintro e w' ⟨rfl, g, cap', W1, ho, hm, rfl, hg⟩
  have q1 := hm.keep (hq.far (p := ⟨ab, id, none⟩) e2 (.int .i64 l.length)) (fun hk => nA1 q (toList_own.1 hk) rfl)
  have a1 := hm.keep (hab.set id (.int .i64 l.length)) (fun hk => nA2 ab (toList_own.1 hk) rfl)
  rw [ints_set] at a1
  have q2 := q1.set 0 (.slice (some ⟨g, 0, none⟩) (l.length + 1) cap')
  have a2 := a1.far (p := ⟨q, 0, none⟩) (Ne.symm e2) (.slice (some ⟨g, 0, none⟩) (l.length + 1) cap')
  obtain ⟨cur, hib, htake, hcl, hnc, hcm, _⟩ := own_get ho
  have e3 : g ≠ q := hib.ne q1 (by decide)
  have o2 := own_mk (base := 0) (cap := cap') (hib.far (p := ⟨q, 0, none⟩) e3 (.slice (some ⟨g, 0, none⟩) (l.length + 1) cap')) htake hcl hnc hcm (Nat.zero_le _)
  refine ⟨rfl, .slice (some ⟨g, 0, none⟩) (l.length + 1) cap', ⟨_, q2, a2, ?_, ?_, hn⟩, ?_, ?_⟩
  · rw [flat_append, show (l ++ [(id, key)]).length = l.length + 1 by simp]; exact o2
  · refine ⟨by simp [hat.len], ?_, ?_⟩
    · intro i x hi
      rcases Nat.lt_or_ge i l.length with hlt | hge
      · rw [List.getElem?_append_left hlt] at hi
        have := hat.pos i x hi
        refine ⟨this.1, ?_⟩
        rw [List.getElem?_set_ne (fun e => hno x (List.mem_of_getElem? hi) e.symm)]
        exact this.2
      · rw [List.getElem?_append_right hge] at hi
        have hi0 : i - l.length = 0 := by
          have := (List.getElem?_eq_some_iff.1 hi).1
          simp at this; omega
        rw [hi0] at hi
        simp at hi
        subst hi
        refine ⟨hid, ?_⟩
        rw [List.getElem?_set_self (by rw [hat.len]; exact hid)]
        congr 2; omega
    · intro a ha
      by_cases e : id = a
      · exact .inr ⟨l.length, (id, key), by simp, e⟩
      · rw [List.getElem?_set_ne e]
        rcases hat.rest a ha with h' | ⟨i, x, hi, hx⟩
        · exact .inl h'
        · exact .inr ⟨i, x, by rw [List.getElem?_append_left (List.getElem?_eq_some_iff.1 hi).1]; exact hi, hx⟩
  · have m1 : Mod (qf q (.slice A l.length cap) ab) w (w.setCell ⟨ab, id, none⟩ (.int .i64 l.length)) := (Mod.refl _ _).setCell (Or.inl (by simp [qf])) _
    exact (m1.trans (hm.more (fun i hi => by simp only [qf, List.mem_cons]; exact .inr (.inr hi)))).setCell (Or.inl (by simp [qf])) _
  · intro b hb
    simp only [qf, List.mem_cons, toList_own] at hb ⊢
    rcases hb with h1 | h1 | h1
    · exact .inl (.inl h1)
    · exact .inl (.inr (.inl h1))
    · have hbg : g = b := by simpa [Value.ownBlock] using h1
      subst hbg
      exact hg.imp (fun h2 => .inr (.inr h2)) (fun h => h)
end Go.Proofs.Ytekeondobdjppaa
