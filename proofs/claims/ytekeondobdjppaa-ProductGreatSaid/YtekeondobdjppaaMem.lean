/- What holds of blocks of memory: 'Blk', a block known whole; 'Mod', nothing but some blocks has turned. -/
import Derived.WalkKit
import Derived.Maps.AppendAt
import Derived.Deep.Draws
import Derived.Deep.AppendLies
namespace Go.Proofs.Ytekeondobdjppaa
open Go.RowKit

/-- Block b is a row of the cells c, of elements of type T, none of them frozen. -/
def Blk (w : World) (b : Nat) (T : TypeId) (c : List Value) : Prop := w.heap[b]? = some (.cells c.toArray T (0, 0))

theorem Blk.lt {w : World} {b : Nat} {T : TypeId} {c : List Value} (h : Blk w b T c) : b < w.heap.size := (Array.getElem?_eq_some_iff.1 h).1
theorem Blk.cell {w : World} {b : Nat} {T : TypeId} {c : List Value} (h : Blk w b T c) (i : Nat) : w.cell? ⟨b, i, none⟩ = c[i]? := by
  have h' : w.heap[b]? = some (.cells c.toArray T (0, 0)) := h
  simp [World.cell?, h']
theorem Blk.get {w : World} {b : Nat} {T : TypeId} {c : List Value} (h : Blk w b T c) {i : Nat} {v : Value} (hv : c[i]? = some v) : w.cell? ⟨b, i, none⟩ = some v := (h.cell i).trans hv
theorem Blk.frozen {w : World} {b : Nat} {T : TypeId} {c : List Value} (h : Blk w b T c) (i : Nat) : w.frozen? ⟨b, i, none⟩ = false := by
  have h' : w.heap[b]? = some (.cells c.toArray T (0, 0)) := h
  simp [World.frozen?, h']
theorem Blk.one {w : World} {b : Nat} {T T' : TypeId} {c c' : List Value} (h : Blk w b T c) (h' : Blk w b T' c') : T = T' ∧ c = c' := by
  have e := Option.some.inj (Eq.trans (Eq.symm h) h')
  injection e with e1 e2 _
  exact ⟨e2, by simpa using e1⟩
theorem Blk.ne {w : World} {b b' : Nat} {T T' : TypeId} {c c' : List Value} (h : Blk w b T c) (h' : Blk w b' T' c') (hT : T ≠ T') : b ≠ b' := by
  intro e; subst e; exact hT (h.one h').1
theorem Blk.alloc {w : World} {b : Nat} {T : TypeId} {c : List Value} (h : Blk w b T c) (o : Obj) : Blk (w.alloc o) b T c :=
  (Below.heap_alloc w o b h.lt).trans h
theorem Blk.new (w : World) (c : Array Value) (T : TypeId) : Blk (w.alloc (.cells c T)) w.heap.size T c.toList := by
  show (w.heap.push _)[w.heap.size]? = _
  simp
theorem Blk.drew {w : World} {b : Nat} {T : TypeId} {c : List Value} (h : Blk w b T c) : Blk w.drew b T c := h
theorem Blk.drewN {w : World} {b : Nat} {T : TypeId} {c : List Value} (h : Blk w b T c) (n : Nat) : Blk (w.drewN n) b T c := h
theorem Blk.set {w : World} {b : Nat} {T : TypeId} {c : List Value} (h : Blk w b T c) (i : Nat) (v : Value) : Blk (w.setCell ⟨b, i, none⟩ v) b T (c.set i v) := by
  have h' : w.heap[b]? = some (.cells c.toArray T (0, 0)) := h
  simp [Blk, World.setCell, Array.getElem?_modify, h']
theorem Blk.far {w : World} {b : Nat} {T : TypeId} {c : List Value} (h : Blk w b T c) {p : Addr} (hp : b ≠ p.block) (v : Value) : Blk (w.setCell p v) b T c :=
  (Below.heap_setCell w p v b hp).trans h

/-- Of what was there in w nothing but the blocks F may have turned. -/
structure Mod (F : List Nat) (w w' : World) : Prop where
  os : w'.os = w.os
  tape : w'.tape = w.tape
  output : w'.output = w.output
  size : w.heap.size ≤ w'.heap.size
  block : ∀ i, i < w.heap.size → i ∉ F → w'.heap[i]? = w.heap[i]?

theorem Mod.refl (F : List Nat) (w : World) : Mod F w w := ⟨rfl, rfl, rfl, Nat.le_refl _, fun _ _ _ => rfl⟩
theorem Mod.trans {F : List Nat} {a b c : World} (h : Mod F a b) (k : Mod F b c) : Mod F a c :=
  ⟨k.os.trans h.os, k.tape.trans h.tape, k.output.trans h.output, Nat.le_trans h.size k.size,
   fun i hi hF => (k.block i (Nat.lt_of_lt_of_le hi h.size) hF).trans (h.block i hi hF)⟩
theorem Mod.then {F G : List Nat} {a b c : World} (h : Mod F a b) (k : Mod G b c) (hG : ∀ i ∈ G, i ∈ F ∨ a.heap.size ≤ i) : Mod F a c :=
  ⟨k.os.trans h.os, k.tape.trans h.tape, k.output.trans h.output, Nat.le_trans h.size k.size,
   fun i hi hF => (k.block i (Nat.lt_of_lt_of_le hi h.size) (fun hg => (hG i hg).elim hF (by omega))).trans (h.block i hi hF)⟩
theorem Mod.more {F G : List Nat} {a b : World} (h : Mod F a b) (hG : ∀ i ∈ F, i ∈ G) : Mod G a b :=
  ⟨h.os, h.tape, h.output, h.size, fun i hi hF => h.block i hi (fun hf => hF (hG i hf))⟩
theorem Mod.nil {F : List Nat} {a b : World} (h : Mod [] a b) : Mod F a b := h.more (fun _ hi => by cases hi)
theorem Mod.fresh {F : List Nat} {a b : World} (h : Mod F a b) (hF : ∀ i ∈ F, a.heap.size ≤ i) : Mod [] a b :=
  ⟨h.os, h.tape, h.output, h.size, fun i hi _ => h.block i hi (fun hf => by have := hF i hf; omega)⟩
theorem Mod.drew {F : List Nat} {a w : World} (h : Mod F a w) : Mod F a w.drew := ⟨h.os, h.tape, h.output, h.size, h.block⟩
theorem Mod.drewN {F : List Nat} {a w : World} (h : Mod F a w) (n : Nat) : Mod F a (w.drewN n) := ⟨h.os, h.tape, h.output, h.size, h.block⟩
theorem Mod.alloc {F : List Nat} {a w : World} (h : Mod F a w) (o : Obj) : Mod F a (w.alloc o) :=
  h.trans ⟨rfl, rfl, rfl, by simp, fun i hi _ => Below.heap_alloc w o i hi⟩
theorem Mod.setCell {F : List Nat} {a w : World} (h : Mod F a w) {p : Addr} (hp : p.block ∈ F ∨ a.heap.size ≤ p.block) (u : Value) : Mod F a (w.setCell p u) :=
  ⟨h.os, h.tape, h.output, by simpa [World.setCell] using h.size, fun i hi hF => (Below.heap_setCell w p u i (fun e => by subst e; exact hp.elim hF (by omega))).trans (h.block i hi hF)⟩
theorem Mod.grown {F : List Nat} {a w w' : World} {row : Option Nat} (h : Mod F a w) (hg : w.grownBy w' row) (hr : ∀ k, row = some k → k ∈ F ∨ a.heap.size ≤ k) : Mod F a w' :=
  ⟨hg.os.trans h.os, hg.tape.trans h.tape, hg.output.trans h.output, Nat.le_trans h.size hg.size,
   fun i hi hF => (hg.block i (Nat.lt_of_lt_of_le hi h.size) (fun e => (hr i e.symm).elim hF (by omega))).trans (h.block i hi hF)⟩
theorem Mod.below {w w' : World} (h : Mod [] w w') : Below w.heap.size w w' := ⟨h.os, h.tape, h.output, h.size, fun i hi => h.block i hi (by simp)⟩
theorem Mod.of_below {w w' : World} (h : Below w.heap.size w w') : Mod [] w w' := ⟨h.os, h.tape, h.output, h.size, fun i hi _ => h.block i hi⟩
theorem Mod.keep {F : List Nat} {w w' : World} (h : Mod F w w') {b : Nat} {T : TypeId} {c : List Value} (hb : Blk w b T c) (hF : b ∉ F) : Blk w' b T c := (h.block b hb.lt hF).trans hb
theorem Mod.cell {F : List Nat} {w w' : World} (h : Mod F w w') {p : Addr} {v : Value} (hc : w.cell? p = some v) (hF : p.block ∉ F) : w'.cell? p = some v :=
  (World.cell?_of_block (w := w) (h.block p.block (World.block_lt_of_cell? w p hc) hF)).trans hc
theorem Mod.own {F : List Nat} {w w' : World} (h : Mod F w w') {base : Nat} {e : TypeId} {size n : Nat} {v : Value} {xs : List Value} (ho : w.ownsRow base e size v n xs)
    (hF : ∀ k, v.ownBlock = some k → k ∉ F) : w'.ownsRow base e size v n xs := by
  refine ⟨ho.1, ?_⟩
  rcases ho.2 with hn | ⟨g, cap, cur, rfl, hb, hg, rest⟩
  · exact .inl hn
  · exact .inr ⟨g, cap, cur, rfl, hb, (h.block g (Array.getElem?_eq_some_iff.1 hg).1 (hF g rfl)).trans hg, rest⟩
theorem Blk.mod {F : List Nat} {w w' : World} {b : Nat} {T : TypeId} {c : List Value} (hb : Blk w b T c) (h : Mod F w w') (hF : b ∉ F) : Blk w' b T c := h.keep hb hF

/-- A slice v of n elements reads as the cells cs, which lie in the blocks F. -/
def Sl (w : World) (F : List Nat) (v : Value) (n : Nat) (cs : List Value) : Prop :=
  (v = .slice none 0 0 ∧ n = 0 ∧ cs = []) ∨
  ∃ b o cap, v = .slice (some ⟨b, o, none⟩) n cap ∧ n ≤ cap ∧ cap ≤ 9223372036854775807 ∧ b ∈ F ∧ b < w.heap.size ∧ ∀ j u, cs[j]? = some u → w.cell? ⟨b, o + j, none⟩ = some u

theorem Sl.mod {F G : List Nat} {w w' : World} {v : Value} {n : Nat} {cs : List Value} (h : Sl w F v n cs) (hm : Mod G w w') (hd : ∀ b ∈ F, b ∉ G) : Sl w' F v n cs := by
  rcases h with h | ⟨b, o, cap, hv, hn, hc, hb, hl, hr⟩
  · exact .inl h
  · exact .inr ⟨b, o, cap, hv, hn, hc, hb, Nat.lt_of_lt_of_le hl hm.size, fun j u hu => hm.cell (hr j u hu) (hd b hb)⟩
theorem Sl.more {F G : List Nat} {w : World} {v : Value} {n : Nat} {cs : List Value} (h : Sl w F v n cs) (hd : ∀ b ∈ F, b ∈ G) : Sl w G v n cs := by
  rcases h with h | ⟨b, o, cap, hv, hn, hc, hb, hl, hr⟩
  · exact .inl h
  · exact .inr ⟨b, o, cap, hv, hn, hc, hd b hb, hl, hr⟩
/-- An owned row read. -/
theorem Sl.of_own {w : World} {base : Nat} {e : TypeId} {size n : Nat} {v : Value} {xs : List Value} (h : w.ownsRow base e size v n xs) : Sl w v.ownBlock.toList v n xs := by
  have hc := fun g => World.ownsRow.cells h (g := g)
  rcases h.2 with ⟨rfl, rfl⟩ | ⟨g, cap, cur, rfl, hb, hg, hn, hm, _, _⟩
  · have := h.1; exact .inl ⟨rfl, rfl, List.eq_nil_of_length_eq_zero (by simpa using this)⟩
  · refine .inr ⟨g, 0, cap, rfl, hn, by simp only [maxLen] at hm; omega, by simp [Value.ownBlock], (Array.getElem?_eq_some_iff.1 hg).1, fun j u hu => ?_⟩
    have h1 := hc g rfl j u hu
    have hadd : (⟨g, 0, none⟩ : Addr).add j = ⟨g, 0 + j, none⟩ := by unfold Addr.add; split <;> simp_all
    rwa [hadd] at h1

/-- What append asks of a slice type t, of elements e: their zero, how many cells, how many bytes. -/
structure AppT (P : Program) (t e : TypeId) (z : Value) (size bytes : Nat) : Prop where
  t : P.underlying t = some (.slice e)
  i : ∃ i, P.info? e = some i ∧ i.zero = some z ∧ i.size = size ∧ i.bytes = bytes
  z : z.cells.size = size
  pos : 0 < size
theorem AppT.mk' {P : Program} {t e : TypeId} {z : Value} {size bytes : Nat} (h1 : P.underlying t = some (.slice e)) (h2 : (P.info? e).map (fun i => (i.zero, i.size, i.bytes)) = some (some z, size, bytes)) (h3 : z.cells.size = size) (h4 : 0 < size) : AppT P t e z size bytes := by
  refine ⟨h1, ?_, h3, h4⟩
  cases hi : P.info? e with
  | none => rw [hi] at h2; cases h2
  | some i =>
    rw [hi] at h2
    simp only [Option.map_some, Option.some.injEq, Prod.mk.injEq] at h2
    exact ⟨i, rfl, h2⟩
theorem own_drew {w : World} {base : Nat} {e : TypeId} {size : Nat} {v : Value} {n : Nat} {xs : List Value} (h : w.ownsRow base e size v n xs) : w.drew.ownsRow base e size v n xs := h
theorem own_alloc {w : World} {base : Nat} {e : TypeId} {size : Nat} {v : Value} {n : Nat} {xs : List Value} (h : w.ownsRow base e size v n xs) (o : Obj) : (w.alloc o).ownsRow base e size v n xs := h.alloc o
/-- One element appended, at a step of a region that draws; the element lies in a block of its own. -/
theorem step_app {P : Program} {w : World} {ops : Array Oper} {o : Oper} {a : Act} {K : Act → World → Prop} {Q : Exit → Act → World → Prop} {E : Prop} (hgd : o.guard = none) (s x : Operand) (t : TypeId)
    (ho : o.op = .call { callee := .builtin .append, args := #[s, x], argTypes := #[t, t] })
    {e : TypeId} {z : Value} {size bytes : Nat} (T : AppT P t e z size bytes)
    (v : Value) (n : Nat) (xs : List Value) (hs : a.eval s = v) (hown : w.ownsRow 0 e size v n xs)
    (nb : Nat) (e' : TypeId) (c : Nat) (news : List Value) (hx : a.eval x = .slice (some ⟨nb, 0, none⟩) 1 c) (hl : news.length = size) (hB : Blk w nb e' news) (h1 : ∀ u ∈ news, u.oneCell' = true)
    (h63 : n < 1000000000) (hb : bytes ≤ 10000)
    (h : ∀ g cap w', w'.ownsRow 0 e size (.slice (some ⟨g, 0, none⟩) (n + 1) cap) (n + 1) (xs ++ news) → w.grownBy w' v.ownBlock → (v.ownBlock = some g ∨ g = w.heap.size) → g < w'.heap.size → K (a.put o.dst (.slice (some ⟨g, 0, none⟩) (n + 1) cap)) w') :
    if Region.wanted o (yielded ops a.tmps) = true then Oper.wp P o a w K Q else E := by
  obtain ⟨i, i1, i2, i3, i4⟩ := T.i
  refine step_append_lies w hgd s x t ho 0 e i z size bytes T.t i1 i2 i3 i4 T.z T.pos v n xs hs hown ⟨nb, 0, none⟩ 1 c news hx (by omega) (fun j u hu => ?_) h1 (by omega) (by simp only [maxLen]; omega) ?_ (Nat.zero_le _) _ rfl h
  · have hadd : (⟨nb, 0, none⟩ : Addr).add j = ⟨nb, j, none⟩ := by unfold Addr.add; split <;> simp_all
    rw [hadd]; exact hB.get hu
  · have : (n + 1) * bytes ≤ 1000000000 * 10000 := Nat.mul_le_mul h63 hb
    omega
/-- The same at the list of a plain region. -/
theorem list_app {P : Program} {w : World} {ops : Array Oper} {rest : List Oper} {o : Oper} {a : Act} {Q : Exit → Act → World → Prop} (hgd : o.guard = none) (s x : Operand) (t : TypeId)
    (ho : o.op = .call { callee := .builtin .append, args := #[s, x], argTypes := #[t, t] })
    {e : TypeId} {z : Value} {size bytes : Nat} (T : AppT P t e z size bytes)
    (v : Value) (n : Nat) (xs : List Value) (hs : a.eval s = v) (hown : w.ownsRow 0 e size v n xs)
    (nb : Nat) (e' : TypeId) (c : Nat) (news : List Value) (hx : a.eval x = .slice (some ⟨nb, 0, none⟩) 1 c) (hl : news.length = size) (hB : Blk w nb e' news) (h1 : ∀ u ∈ news, u.oneCell' = true)
    (h63 : n < 1000000000) (hb : bytes ≤ 10000)
    (h : ∀ g cap w', w'.ownsRow 0 e size (.slice (some ⟨g, 0, none⟩) (n + 1) cap) (n + 1) (xs ++ news) → w.grownBy w' v.ownBlock → (v.ownBlock = some g ∨ g = w.heap.size) → g < w'.heap.size → wpList P ops Q rest (a.put o.dst (.slice (some ⟨g, 0, none⟩) (n + 1) cap)) w') :
    wpList P ops Q (o :: rest) a w := by
  obtain ⟨i, i1, i2, i3, i4⟩ := T.i
  refine wpList_append_lies w hgd s x t ho 0 e i z size bytes T.t i1 i2 i3 i4 T.z T.pos v n xs hs hown ⟨nb, 0, none⟩ 1 c news hx (by omega) (fun j u hu => ?_) h1 (by omega) (by simp only [maxLen]; omega) ?_ (Nat.zero_le _) _ rfl h
  · have hadd : (⟨nb, 0, none⟩ : Addr).add j = ⟨nb, j, none⟩ := by unfold Addr.add; split <;> simp_all
    rw [hadd]; exact hB.get hu
  · have : (n + 1) * bytes ≤ 1000000000 * 10000 := Nat.mul_le_mul h63 hb
    omega
end Go.Proofs.Ytekeondobdjppaa
