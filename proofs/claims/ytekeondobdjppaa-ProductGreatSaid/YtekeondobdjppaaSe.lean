/- A search, as it lies in memory. -/
import Derived.Test.YtekeondobdjppaaProd4
import Derived.Test.YtekeondobdjppaaProd1
import Derived.Test.YtekeondobdjppaaQueueC
namespace Go.Proofs.Ytekeondobdjppaa
open Go.RowKit

def rowI (n : Nat) (c : Nat → Int) : List Value := rowsB n (fun i => .int .i64 (c i))
def updF (c : Nat → Int) (i : Nat) (x : Int) : Nat → Int := fun j => if j = i then x else c j
theorem rowsB_set {n : Nat} {V : Nat → Value} {i : Nat} (x : Value) : (rowsB n V).set i x = rowsB n (fun j => if j = i then x else V j) := by
  apply List.ext_getElem?
  intro j
  rw [List.getElem?_set]
  simp only [rowsB, List.length_map, List.length_range, List.getElem?_map]
  by_cases h : i = j
  · subst h
    by_cases h2 : i < n
    · simp [h2]
    · simp [h2]
  · by_cases h2 : j < n
    · simp [h, h2, Ne.symm h]
    · simp [h, h2]
theorem rowI_set {n : Nat} {c : Nat → Int} {i : Nat} (x : Int) : (rowI n c).set i (.int .i64 x) = rowI n (updF c i x) := by
  simp only [rowI]
  rw [rowsB_set]
  congr 1
  funext j
  simp only [updF]
  split <;> rfl
theorem rowI_get {n : Nat} {c : Nat → Int} {i : Nat} (h : i < n) : (rowI n c)[i]? = some (.int .i64 (c i)) := rowsB_get (V := fun i => .int .i64 (c i)) h

/-- What a search has found. -/
structure St where
  c : Nat → Int
  e : Nat → Int
  f : Nat → Int
  K : Nat → Option Int

structure Dis (sp cb eb fb : Nat) (Fq Fg : List Nat) : Prop where
  sc : sp ≠ cb
  se : sp ≠ eb
  sf : sp ≠ fb
  ce : cb ≠ eb
  cf : cb ≠ fb
  ef : eb ≠ fb
  sq : sp ∉ Fq
  cq : cb ∉ Fq
  eq : eb ∉ Fq
  fq : fb ∉ Fq
  sg : sp ∉ Fg
  cg : cb ∉ Fg
  eg : eb ∉ Fg
  fg : fb ∉ Fg
  qg : ∀ b ∈ Fq, b ∉ Fg

def seCells (g q cb eb fb m : Nat) (fn : Value) (l : Int) : List Value := [.pointer (some ⟨g, 0, none⟩), fn, .pointer (some ⟨q, 0, none⟩), .slice (some ⟨cb, 0, none⟩) m m, .slice (some ⟨eb, 0, none⟩) m m, .slice (some ⟨fb, 0, none⟩) m m, .int .i64 l]

structure Se (w : World) (sp cb eb fb q : Nat) (Fq Fg : List Nat) (fn : Value) (g n : Nat) (E : List Ed) (D : Dm) (st : St) (l : Int) : Prop where
  b : Blk w sp 88 (seCells g q cb eb fb (n * D.S) fn l)
  c : Blk w cb 3 (rowI (n * D.S) st.c)
  e : Blk w eb 3 (rowI (n * D.S) st.e)
  f : Blk w fb 3 (rowI (n * D.S) st.f)
  q : Qu w Fq q (n * D.S) st.K
  g : GraphR w Fg g n E D
  d : Dis sp cb eb fb Fq Fg
  gl : ∀ b ∈ Fg, b < w.heap.size

def seF (sp cb eb fb : Nat) (Fq : List Nat) : List Nat := sp :: cb :: eb :: fb :: Fq
theorem mem_seF {sp cb eb fb b : Nat} {Fq : List Nat} : b ∈ seF sp cb eb fb Fq ↔ b = sp ∨ b = cb ∨ b = eb ∨ b = fb ∨ b ∈ Fq := by simp [seF]

section
variable {w w' : World} {sp cb eb fb q : Nat} {Fq Fq' Fg G : List Nat} {fn : Value} {g n : Nat} {E : List Ed} {D : Dm} {st : St} {l : Int}
theorem Se.mod (h : Se w sp cb eb fb q Fq Fg fn g n E D st l) (hm : Mod G w w') (hd : ∀ b ∈ seF sp cb eb fb Fq, b ∉ G) (hg : ∀ b ∈ Fg, b ∉ G) : Se w' sp cb eb fb q Fq Fg fn g n E D st l :=
  ⟨hm.keep h.b (hd _ (by simp [seF])), hm.keep h.c (hd _ (by simp [seF])), hm.keep h.e (hd _ (by simp [seF])), hm.keep h.f (hd _ (by simp [seF])), h.q.mod hm (fun b hb => hd b (by simp [seF, hb])), h.g.mod hm hg, h.d, fun b hb => Nat.lt_of_lt_of_le (h.gl b hb) hm.size⟩
theorem Se.mod0 (h : Se w sp cb eb fb q Fq Fg fn g n E D st l) (hm : Mod [] w w') : Se w' sp cb eb fb q Fq Fg fn g n E D st l := h.mod hm (by simp) (by simp)
theorem Se.lt (h : Se w sp cb eb fb q Fq Fg fn g n E D st l) : ∀ b ∈ seF sp cb eb fb Fq, b < w.heap.size := by
  intro b hb
  rcases mem_seF.1 hb with rfl | rfl | rfl | rfl | hb
  · exact h.b.lt
  · exact h.c.lt
  · exact h.e.lt
  · exact h.f.lt
  · exact h.q.lt b hb
theorem Se.cost (h : Se w sp cb eb fb q Fq Fg fn g n E D st l) (i : Nat) (x : Int) : Se (w.setCell ⟨cb, i, none⟩ (.int .i64 x)) sp cb eb fb q Fq Fg fn g n E D { st with c := updF st.c i x } l := by
  have hm : Mod [cb] w (w.setCell ⟨cb, i, none⟩ (.int .i64 x)) := (Mod.refl _ _).setCell (Or.inl (by simp)) _
  have d := h.d
  refine ⟨hm.keep h.b (by simpa using d.sc), ?_, hm.keep h.e (by simpa using Ne.symm d.ce), hm.keep h.f (by simpa using Ne.symm d.cf), h.q.mod hm (fun b hb e => d.cq (by simp at e; exact e ▸ hb)), h.g.mod hm (fun b hb e => d.cg (by simp at e; exact e ▸ hb)), d, fun b hb => Nat.lt_of_lt_of_le (h.gl b hb) hm.size⟩
  have := h.c.set i (.int .i64 x)
  rwa [rowI_set] at this
theorem Se.edge (h : Se w sp cb eb fb q Fq Fg fn g n E D st l) (i : Nat) (x : Int) : Se (w.setCell ⟨eb, i, none⟩ (.int .i64 x)) sp cb eb fb q Fq Fg fn g n E D { st with e := updF st.e i x } l := by
  have hm : Mod [eb] w (w.setCell ⟨eb, i, none⟩ (.int .i64 x)) := (Mod.refl _ _).setCell (Or.inl (by simp)) _
  have d := h.d
  refine ⟨hm.keep h.b (by simpa using d.se), hm.keep h.c (by simpa using d.ce), ?_, hm.keep h.f (by simpa using Ne.symm d.ef), h.q.mod hm (fun b hb e => d.eq (by simp at e; exact e ▸ hb)), h.g.mod hm (fun b hb e => d.eg (by simp at e; exact e ▸ hb)), d, fun b hb => Nat.lt_of_lt_of_le (h.gl b hb) hm.size⟩
  have := h.e.set i (.int .i64 x)
  rwa [rowI_set] at this
theorem Se.from' (h : Se w sp cb eb fb q Fq Fg fn g n E D st l) (i : Nat) (x : Int) : Se (w.setCell ⟨fb, i, none⟩ (.int .i64 x)) sp cb eb fb q Fq Fg fn g n E D { st with f := updF st.f i x } l := by
  have hm : Mod [fb] w (w.setCell ⟨fb, i, none⟩ (.int .i64 x)) := (Mod.refl _ _).setCell (Or.inl (by simp)) _
  have d := h.d
  refine ⟨hm.keep h.b (by simpa using d.sf), hm.keep h.c (by simpa using d.cf), hm.keep h.e (by simpa using d.ef), ?_, h.q.mod hm (fun b hb e => d.fq (by simp at e; exact e ▸ hb)), h.g.mod hm (fun b hb e => d.fg (by simp at e; exact e ▸ hb)), d, fun b hb => Nat.lt_of_lt_of_le (h.gl b hb) hm.size⟩
  have := h.f.set i (.int .i64 x)
  rwa [rowI_set] at this
theorem Se.least (h : Se w sp cb eb fb q Fq Fg fn g n E D st l) (x : Int) : Se (w.setCell ⟨sp, 6, none⟩ (.int .i64 x)) sp cb eb fb q Fq Fg fn g n E D st x := by
  have hm : Mod [sp] w (w.setCell ⟨sp, 6, none⟩ (.int .i64 x)) := (Mod.refl _ _).setCell (Or.inl (by simp)) _
  have d := h.d
  exact ⟨h.b.set 6 (.int .i64 x), hm.keep h.c (by simpa using Ne.symm d.sc), hm.keep h.e (by simpa using Ne.symm d.se), hm.keep h.f (by simpa using Ne.symm d.sf), h.q.mod hm (fun b hb e => d.sq (by simp at e; exact e ▸ hb)), h.g.mod hm (fun b hb e => d.sg (by simp at e; exact e ▸ hb)), d, fun b hb => Nat.lt_of_lt_of_le (h.gl b hb) hm.size⟩
theorem Se.queue (h : Se w sp cb eb fb q Fq Fg fn g n E D st l) {K' : Nat → Option Int} (hq : Qu w' Fq' q (n * D.S) K') (hm : Mod Fq w w') (hF : ∀ b ∈ Fq', b ∈ Fq ∨ w.heap.size ≤ b) : Se w' sp cb eb fb q Fq' Fg fn g n E D { st with K := K' } l := by
  have d := h.d
  have hgl := h.gl
  have nin : ∀ b, b ∉ Fq → b < w.heap.size → b ∉ Fq' := fun b h1 h2 h3 => by
    rcases hF b h3 with h4 | h4
    · exact h1 h4
    · omega
  exact ⟨hm.keep h.b d.sq, hm.keep h.c d.cq, hm.keep h.e d.eq, hm.keep h.f d.fq, hq, h.g.mod hm (fun b hb e => d.qg b e hb), ⟨d.sc, d.se, d.sf, d.ce, d.cf, d.ef, nin _ d.sq h.b.lt, nin _ d.cq h.c.lt, nin _ d.eq h.e.lt, nin _ d.fq h.f.lt, d.sg, d.cg, d.eg, d.fg, fun b hb hg => nin b (fun e => d.qg b e hg) (hgl b hg) hb⟩, fun b hb => Nat.lt_of_lt_of_le (hgl b hb) hm.size⟩
end

/-- One way more is known, perhaps. -/
def relax1 (E : List Ed) (id : Nat) (key : Int) (st : St) (h : Nat × Nat) : St :=
  if st.c h.1 < 0 ∧ putB st.K h.1 (key + (edAt E h.2).c) = true then ⟨st.c, updF st.e h.1 h.2, updF st.f h.1 id, putK st.K h.1 (key + (edAt E h.2).c)⟩ else st
def hopId (S : Nat) (h : Hop) : Nat × Nat := (h.1 * S + h.2.1, h.2.2)
def settle (id : Nat) (key : Int) (st : St) : St := { st with c := updF st.c id key, K := delK st.K id }
def stepSt (E : List Ed) (S id : Nat) (key : Int) (l : List Hop) (st : St) : St := l.foldl (fun s h => relax1 E id key s (hopId S h)) (settle id key st)
theorem stepSt_nil (E : List Ed) (S id : Nat) (key : Int) (st : St) : stepSt E S id key [] st = settle id key st := rfl
theorem stepSt_snoc (E : List Ed) (S id : Nat) (key : Int) (l : List Hop) (h : Hop) (st : St) : stepSt E S id key (l ++ [h]) st = relax1 E id key (stepSt E S id key l st) (hopId S h) := by simp [stepSt, List.foldl_append]

def HopOk (n : Nat) (E : List Ed) (D : Dm) (h : Hop) : Prop := h.1 < n ∧ h.2.1 < D.S ∧ h.2.2 < E.length
theorem hopsOn_ok {n : Nat} {E : List Ed} {D : Dm} (hE : EdOk n E) (hD : DmOk D) {v s : Nat} (hs : s < D.S) : ∀ h ∈ hopsOn E D v s, HopOk n E D h := by
  intro h hh
  simp only [hopsOn, List.mem_map] at hh
  obtain ⟨k, hk, rfl⟩ := hh
  have h1 := mem_outs hk
  have h2 := hE _ (List.mem_of_getElem? (edAt_of h1.1))
  exact ⟨h2.2.1, hD.2.2 _ _ hs h2.2.2.1, h1.1⟩
theorem hopsBack_ok {n : Nat} {E : List Ed} {D : Dm} (hE : EdOk n E) (_hD : DmOk D) {v s : Nat} (_hs : s < D.S) : ∀ h ∈ hopsBack E D v s, HopOk n E D h := by
  intro h hh
  simp only [hopsBack, List.mem_flatMap, List.mem_map] at hh
  obtain ⟨k, hk, s', hs', rfl⟩ := hh
  have h1 := mem_ins hk
  have h2 := hE _ (List.mem_of_getElem? (edAt_of h1.1))
  simp only [befs, List.mem_filter, List.mem_range] at hs'
  exact ⟨h2.1, hs'.1, h1.1⟩
end Go.Proofs.Ytekeondobdjppaa
