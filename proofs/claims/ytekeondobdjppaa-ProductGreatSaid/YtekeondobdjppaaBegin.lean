/- A search begun: walk. -/
import Derived.Test.YtekeondobdjppaaSe
import Derived.Test.YtekeondobdjppaaAdj1
import Derived.Deep.DeepCutAuto
import Derived.Deep.RegionHeld3
namespace Go.Proofs.Ytekeondobdjppaa
open Go.RowKit

abbrev Sp := Nat × Nat
def spCells (l : List Sp) : List Value := l.flatMap fun x => [.int .i64 x.1, .int .i64 x.2]
theorem spCells_append (l m : List Sp) : spCells (l ++ m) = spCells l ++ spCells m := by simp [spCells]
theorem spCells_length (l : List Sp) : (spCells l).length = l.length * 2 := by
  induction l with
  | nil => rfl
  | cons e E ih => simp only [spCells, List.flatMap_cons, List.length_append] at ih ⊢; simp [ih]; omega
theorem spCells_get : ∀ (l : List Sp) (i : Nat) (x : Sp), l[i]? = some x → (spCells l)[i * 2]? = some (.int .i64 x.1) ∧ (spCells l)[i * 2 + 1]? = some (.int .i64 x.2) := by
  intro l
  induction l with
  | nil => intro i x h; simp at h
  | cons y l ih =>
    intro i x h
    have e : spCells (y :: l) = .int .i64 y.1 :: .int .i64 y.2 :: spCells l := rfl
    cases i with
    | zero => simp at h; subst h; simp [e]
    | succ i =>
      have := ih i x (by simpa using h)
      rw [e, show (i + 1) * 2 = i * 2 + 1 + 1 by omega]
      simpa using this
/-- What waits: the spots of a list, at nothing. -/
def KL (S : Nat) (l : List Sp) : Nat → Option Int := l.foldl (fun K x => putK K (x.1 * S + x.2) 0) (fun _ => none)
theorem KL_snoc (S : Nat) (l : List Sp) (x : Sp) : KL S (l ++ [x]) = putK (KL S l) (x.1 * S + x.2) 0 := by simp [KL, List.foldl_append]
theorem snocInd' {α : Type} {P : List α → Prop} (h0 : P []) (hs : ∀ l x, P l → P (l ++ [x])) (l : List α) : P l := by
  rw [← List.reverse_reverse l]
  induction l.reverse with
  | nil => exact h0
  | cons x l ih => rw [List.reverse_cons]; exact hs _ _ ih
theorem KL_some (S : Nat) (l : List Sp) : ∀ id k, KL S l id = some k → k = 0 ∧ ∃ x ∈ l, id = x.1 * S + x.2 := by
  refine snocInd' (P := fun l => ∀ id k, KL S l id = some k → k = 0 ∧ ∃ x ∈ l, id = x.1 * S + x.2) ?_ ?_ l
  · intro id k h; cases h
  · intro l x ih id k h
    rw [KL_snoc] at h
    simp only [putK] at h
    split at h
    · simp only [updK] at h
      split at h
      · rename_i e
        injection h with h
        exact ⟨h.symm, x, by simp, e⟩
      · obtain ⟨h1, y, hy, h2⟩ := ih id k h
        exact ⟨h1, y, by simp [hy], h2⟩
    · obtain ⟨h1, y, hy, h2⟩ := ih id k h
      exact ⟨h1, y, by simp [hy], h2⟩
theorem KL_mem (S : Nat) (l : List Sp) : ∀ x ∈ l, KL S l (x.1 * S + x.2) = some 0 := by
  refine snocInd' (P := fun l => ∀ x ∈ l, KL S l (x.1 * S + x.2) = some 0) ?_ ?_ l
  · intro x h; simp at h
  · intro l y ih x hx
    rw [KL_snoc]
    simp only [putK]
    split
    · simp only [updK]
      split
      · rfl
      · rename_i e
        rcases List.mem_append.1 hx with h | h
        · exact ih x h
        · simp only [List.mem_singleton] at h; subst h; exact absurd rfl e
    · rename_i hp
      rcases List.mem_append.1 hx with h | h
      · exact ih x h
      · simp only [List.mem_singleton] at h
        subst h
        cases hk : KL S l (x.1 * S + x.2) with
        | none => simp [putB, hk] at hp
        | some k => rw [(KL_some S l _ _ hk).1]

def zeroI (k : Nat) : Nat → Int := fun i => if i < k then -1 else 0
theorem rowI_zero (n : Nat) : rowI n (zeroI 0) = List.replicate n (.int .i64 0) := by
  apply List.ext_getElem?
  intro i
  simp only [rowI, rowsB, List.getElem?_map, List.getElem?_replicate, zeroI]
  by_cases h : i < n
  · simp [h]
  · simp [h]
theorem rowI_congr {n : Nat} {c d : Nat → Int} (h : ∀ i, i < n → c i = d i) : rowI n c = rowI n d := by
  simp only [rowI, rowsB]
  refine List.map_congr_left (fun i hi => ?_)
  rw [h i (List.mem_range.1 hi)]
theorem zeroI_set {k : Nat} : updF (zeroI k) k (-1) = zeroI (k + 1) := by
  funext j
  simp only [updF, zeroI]
  by_cases e : j = k
  · subst e; simp
  · rw [if_neg e]
    by_cases h : j < k
    · rw [if_pos h, if_pos (by omega)]
    · rw [if_neg h, if_neg (by omega)]
theorem zeroI_end (n : Nat) : rowI n (zeroI n) = rowI n (fun _ => -1) := rowI_congr (fun i hi => by simp [zeroI, hi])

theorem zrow_at (w : World) (n : Nat) {b : Nat} (h : w.heap.size = b) : Blk (w.alloc (.cells (zrow #[.int .i64 0] n) 3)) b 3 (List.replicate n (.int .i64 0)) := h ▸ Blk.zrow (w := w) (.int .i64 0) n 3 rfl
theorem Blk.mod0 {w w' : World} {b : Nat} {T : TypeId} {c : List Value} (hb : Blk w b T c) (h : Mod [] w w') : Blk w' b T c := h.keep hb (by simp)
theorem alz (w : World) (o : Obj) : (w.alloc o).heap.size = w.heap.size + 1 := by simp
theorem drz (w : World) : w.drew.heap.size = w.heap.size := rfl
/-- What begin has laid ahead of its loops. -/
def BegL (w wx : World) (g N : Nat) (fn : Value) (s : Value) : Prop := ∃ sp cb eb fb q Fq, s = .pointer (some ⟨sp, 0, none⟩) ∧ Blk wx sp 88 (seCells g q cb eb fb N fn 0) ∧
  Blk wx cb 3 (rowI N (zeroI 0)) ∧ Blk wx eb 3 (rowI N (zeroI 0)) ∧ Blk wx fb 3 (rowI N (zeroI 0)) ∧ Qu wx Fq q N (fun _ => none) ∧ Mod [] w wx ∧
  (w.heap.size ≤ sp ∧ w.heap.size ≤ cb ∧ w.heap.size ≤ eb ∧ w.heap.size ≤ fb) ∧ (sp ≠ cb ∧ sp ≠ eb ∧ sp ≠ fb ∧ cb ≠ eb ∧ cb ≠ fb ∧ eb ≠ fb) ∧ ∀ b ∈ Fq, w.heap.size ≤ b ∧ b ≠ sp ∧ b ≠ cb ∧ b ≠ eb ∧ b ≠ fb

theorem BegL.mk {w W : World} {g N q cb eb fb k : Nat} {fn : Value} {F : List Nat} (hk : W.heap.size = k) (hc : Blk W cb 3 (rowI N (zeroI 0))) (he : Blk W eb 3 (rowI N (zeroI 0))) (hf : Blk W fb 3 (rowI N (zeroI 0))) (hq : Qu W F q N (fun _ => none)) (hm : Mod [] w W)
    (hlo : w.heap.size ≤ cb ∧ w.heap.size ≤ eb ∧ w.heap.size ≤ fb) (hne : cb ≠ eb ∧ cb ≠ fb ∧ eb ≠ fb) (hF : ∀ b ∈ F, w.heap.size ≤ b ∧ b ≠ cb ∧ b ≠ eb ∧ b ≠ fb) :
    BegL w (W.alloc (.cells #[.pointer (some ⟨g, 0, none⟩), fn, .pointer (some ⟨q, 0, none⟩), .slice (some ⟨cb, 0, none⟩) N N, .slice (some ⟨eb, 0, none⟩) N N, .slice (some ⟨fb, 0, none⟩) N N, .int .i64 0] 88)) g N fn (.pointer (some ⟨k, 0, none⟩)) := by
  have l1 := hc.lt
  have l2 := he.lt
  have l3 := hf.lt
  have l4 := hq.lt
  have l5 := hm.size
  refine ⟨k, cb, eb, fb, q, F, rfl, Blk.new' _ _ hk, hc.alloc _, he.alloc _, hf.alloc _, hq.mod ((Mod.refl [] W).alloc _) (fun _ _ => by simp), hm.alloc _, ⟨by omega, hlo.1, hlo.2.1, hlo.2.2⟩, ⟨by omega, by omega, by omega, hne.1, hne.2.1, hne.2.2⟩, fun b hb => ?_⟩
  have h1 := hF b hb
  have h2 := l4 b hb
  exact ⟨h1.1, by omega, h1.2⟩
set_option maxRecDepth 100000 in
set_option maxHeartbeats 4000000 in
theorem begin_calls {w : World} {Fg Fa : List Nat} {g n : Nat} {E : List Ed} {D : Dm} {fk : Nat} {av : Value} {at_ : List Sp} (h : GraphR w Fg g n E D) (hgl : ∀ b ∈ Fg, b < w.heap.size) (hat : Sl w Fa av at_.length (spCells at_))
    (hok : ∀ x ∈ at_, x.1 < n ∧ x.2 < D.S) :
    Calls Try.prog 44 #[.pointer (some ⟨g, 0, none⟩), .func (.func fk) #[] #[], av] w fun e w' => ∃ sp cb eb fb q Fq, e = .returned (.pointer (some ⟨sp, 0, none⟩)) ∧
      Se w' sp cb eb fb q Fq Fg (.func (.func fk) #[] #[]) g n E D ⟨fun _ => -1, fun _ => -1, fun _ => -1, KL D.S at_⟩ 0 ∧ Mod [] w w' ∧ ∀ b ∈ seF sp cb eb fb Fq, w.heap.size ≤ b := by
  obtain ⟨A0, c0, rfl, g0, g0'⟩ := hat.form
  have HG := Lib.hid h
  obtain ⟨hn60, hn0, hm, hok2, hD, ev, nv, aa, a, bb, VB, k1, k2, hE, hNx, k5, hA, k7, k8, k9⟩ := h
  obtain ⟨A2, c2, rfl, g2, g2'⟩ := hNx.form
  have p0 : w.cell? ⟨g, 0, none⟩ = some (.int .i64 n) := k1.get rfl
  have p3 : w.cell? ⟨g, 3, none⟩ = some (.slice A2 D.S c2) := k1.get rfl
  have zg : g < w.heap.size := k1.lt
  obtain ⟨N, hN⟩ : ∃ N, n * D.S = N := ⟨_, rfl⟩
  have hNb : N ≤ 120000 := by rw [← hN]; exact Nat.le_trans (Nat.mul_le_mul hn60 hD.2.1) (by omega)
  have b0 : (n : Int) * (D.S : Int) = (N : Int) := by rw [← hN]; exact (Int.natCast_mul _ _).symm
  have b1 : (0 : Int) ≤ (n : Int) * (D.S : Int) := by omega
  have b2 : (n : Int) * (D.S : Int) ≤ 120000 := by omega
  have HN := Lib.hid hN
  have HD := Lib.hid hD
  have HAT := Lib.hid hat
  have HOK := Lib.hid hok
  have HGL := Lib.hid hgl
  have HB0 := Lib.hid b0
  clear hN hD hat hok hgl hok2 hE hNx hA k1 k2 k5 k7 k8 k9 b0
  have hmk := fun W => run_mk appInt N (by omega) (by omega) W
  go_enter Try.func44, Try.ntmps44
  go_upto_region 1 with fail
  go_region
  go_upto_region 2 with fail
  rw [HB0.out]
  clear b1 b2 p0 p3
  go_cut [8] (fun s wx => Hid (BegL w wx g N (.func (.func fk) #[] #[]) s))
  case first =>
    go_region_held3 (fun w' => True) (trivial)
      ((go_at_call 82; refine (queueNew_calls N _ (by omega)).mono ?_; rintro e w1 ⟨q, F, rfl, hq, hm1, hF⟩; have HQ := Lib.hid hq; have HM1 := Lib.hid hm1; have HF := Lib.hid hF; clear hq hm1 hF))
    all_goals go_wp2_with fail
    all_goals go_meet
    all_goals
      have hs1 := HM1.out.size
      have hf1 := HF.out
      have hq1 := HQ.out.lt
      simp only [drz, alz] at hs1 hf1
      refine BegL.mk (F := F) (by simp) ?_ ?_ ?_ ?_ ?_ ?_ ?_ (fun b hb => ?_)
      · rw [rowI_zero]; repeat (first | (with_reducible refine zrow_at _ _ ?_; first | with_reducible rfl | (simp only [alz]; done)) | with_reducible refine Blk.alloc ?_ _ | with_reducible refine Blk.drew ?_ | with_reducible refine Blk.mod0 ?_ HM1.out)
      · rw [rowI_zero]; repeat (first | (with_reducible refine zrow_at _ _ ?_; first | with_reducible rfl | (simp only [alz]; done)) | with_reducible refine Blk.alloc ?_ _ | with_reducible refine Blk.drew ?_ | with_reducible refine Blk.mod0 ?_ HM1.out)
      · rw [rowI_zero]; repeat (first | (with_reducible refine zrow_at _ _ ?_; first | with_reducible rfl | (simp only [alz]; done)) | with_reducible refine Blk.alloc ?_ _ | with_reducible refine Blk.drew ?_ | with_reducible refine Blk.mod0 ?_ HM1.out)
      · refine HQ.out.mod (G := []) ?_ (fun _ _ => by simp)
        repeat (first | with_reducible exact Mod.refl _ _ | with_reducible refine Mod.alloc ?_ _ | with_reducible refine Mod.drew ?_)
      · repeat (first | with_reducible exact Mod.refl _ _ | with_reducible refine Mod.alloc ?_ _ | with_reducible refine Mod.drew ?_ | with_reducible refine Mod.trans ?_ HM1.out)
      · omega
      · omega
      · have h1 := hf1 b hb
        have h2 := hq1 b hb
        omega
  case rest =>
    obtain ⟨sp, cb, eb, fb, q, Fq, rfl, H1, H2, H3, H4, H5, H6, H7, H8, H9⟩ := hcut.out
    obtain ⟨wo, rfl⟩ : ∃ wo : World, wo = wc := ⟨_, rfl⟩
    have q3 : wo.cell? ⟨sp, 3, none⟩ = some (.slice (some ⟨cb, 0, none⟩) N N) := H1.get rfl
    have zs : sp < wo.heap.size := H1.lt
    have HB1 := Lib.hid H1
    have HC := Lib.hid H2
    have HE := Lib.hid H3
    have HF := Lib.hid H4
    have HQ := Lib.hid H5
    have HM := Lib.hid H6
    have HL := Lib.hid H7
    have HNE := Lib.hid H8
    have HFQ := Lib.hid H9
    clear H1 H2 H3 H4 H5 H6 H7 H8 H9 hcut hmk HB0
    go_wp2_with fail
    go_loopw [42] (fun u wr => ∃ k : Nat, k ≤ N ∧ u = .int .i64 k ∧ Hid (Blk wr cb 3 (rowI N (zeroI k))) ∧ Hid (Blk wr eb 3 (rowI N (zeroI k))) ∧ Hid (Blk wr fb 3 (rowI N (zeroI k))) ∧ Hid (Mod [cb, eb, fb] wo wr)) (fun u _ => N - (intOf u).toNat)
    case atStart => exact ⟨0, Nat.zero_le _, rfl, HC, HE, HF, Mod.refl _ _⟩
    case round =>
      obtain ⟨k, hk, rfl, HC1, HE1, HF1, HM1⟩ := hrel
      clear HC HE HF q3
      have y1 := HNE.out.1
      have y2 := HNE.out.2.1
      have y3 := HNE.out.2.2.1
      have y4 := HNE.out.2.2.2.1
      have y5 := HNE.out.2.2.2.2.1
      have y6 := HNE.out.2.2.2.2.2
      by_cases hlt : k < N
      · have q3 : wr.cell? ⟨sp, 3, none⟩ = some (.slice (some ⟨cb, 0, none⟩) N N) := HM1.out.cell (HB1.out.get (i := 3) rfl) (by simp [y1, y2, y3])
        have q4 : wr.cell? ⟨sp, 4, none⟩ = some (.slice (some ⟨eb, 0, none⟩) N N) := HM1.out.cell (HB1.out.get (i := 4) rfl) (by simp [y1, y2, y3])
        have q5 : wr.cell? ⟨sp, 5, none⟩ = some (.slice (some ⟨fb, 0, none⟩) N N) := HM1.out.cell (HB1.out.get (i := 5) rfl) (by simp [y1, y2, y3])
        have xc := HC1.out.get (rowI_get (c := zeroI k) hlt)
        have xe := HE1.out.get (rowI_get (c := zeroI k) hlt)
        have xf := HF1.out.get (rowI_get (c := zeroI k) hlt)
        have f1 := HC1.out.frozen k
        have f2 := HE1.out.frozen k
        have f3 := HF1.out.frozen k
        have z1 : sp < wr.heap.size := World.block_lt_of_cell? wr _ q3
        have z2 := HC1.out.lt
        have z3 := HE1.out.lt
        have z4 := HF1.out.lt
        have b1 : (0 : Int) ≤ (k : Int) := by omega
        have b2 : (k : Int) < (N : Int) := by omega
        have hkeep : ∀ W, Mod [cb, eb, fb] wr W → (W.cell? ⟨sp, 3, none⟩ = some (.slice (some ⟨cb, 0, none⟩) N N) ∧ W.cell? ⟨sp, 4, none⟩ = some (.slice (some ⟨eb, 0, none⟩) N N) ∧ W.cell? ⟨sp, 5, none⟩ = some (.slice (some ⟨fb, 0, none⟩) N N)) := fun W hm => ⟨hm.cell q3 (by simp [y1, y2, y3]), hm.cell q4 (by simp [y1, y2, y3]), hm.cell q5 (by simp [y1, y2, y3])⟩
        have HKEEP := Lib.hid hkeep
        clear hkeep
        go_wp2_with fail
        go_region_held3 (fun w' => w'.cell? ⟨sp, 3, none⟩ = some (.slice (some ⟨cb, 0, none⟩) N N) ∧ w'.cell? ⟨sp, 4, none⟩ = some (.slice (some ⟨eb, 0, none⟩) N N) ∧ w'.cell? ⟨sp, 5, none⟩ = some (.slice (some ⟨fb, 0, none⟩) N N)) (exact HKEEP.out _ (by repeat (first | exact Mod.refl _ _ | refine Mod.drew ?_ | refine Mod.setCell ?_ (Or.inl (by simp)) _))) (fail)
        all_goals go_wp2_with fail
        refine ⟨⟨k + 1, by omega, by go_num, ?_, ?_, ?_, (((HM1.out.setCell (p := ⟨cb, k, none⟩) (Or.inl (by simp)) _).setCell (p := ⟨eb, k, none⟩) (Or.inl (by simp)) _).setCell (p := ⟨fb, k, none⟩) (Or.inl (by simp)) _).drew⟩, by simp [intOf]; omega⟩
        · have := ((HC1.out.set k (.int .i64 (-1))).far (p := ⟨eb, k, none⟩) y4 (.int .i64 (-1))).far (p := ⟨fb, k, none⟩) y5 (.int .i64 (-1))
          rw [rowI_set, zeroI_set] at this
          exact this.drew
        · have := ((HE1.out.far (p := ⟨cb, k, none⟩) (Ne.symm y4) (.int .i64 (-1))).set k (.int .i64 (-1))).far (p := ⟨fb, k, none⟩) y6 (.int .i64 (-1))
          rw [rowI_set, zeroI_set] at this
          exact this.drew
        · have := ((HF1.out.far (p := ⟨cb, k, none⟩) (Ne.symm y5) (.int .i64 (-1))).far (p := ⟨eb, k, none⟩) (Ne.symm y6) (.int .i64 (-1))).set k (.int .i64 (-1))
          rw [rowI_set, zeroI_set] at this
          exact this.drew
      · obtain rfl : k = N := by omega
        have hlo := HL.out
        have hfg : ∀ b ∈ Fg, b < w.heap.size := HGL.out
        have nin : ∀ b, w.heap.size ≤ b → b ∉ Fg := fun b hb hf => by have := hfg b hf; omega
        have hse : Se wr sp cb eb fb q Fq Fg (.func (.func fk) #[] #[]) g n E D ⟨fun _ => -1, fun _ => -1, fun _ => -1, KL D.S (at_.take 0)⟩ 0 := by
          have e : n * D.S = k := HN.out
          refine ⟨?_, ?_, ?_, ?_, ?_, ?_, ⟨y1, y2, y3, y4, y5, y6, ?_, ?_, ?_, ?_, ?_, ?_, ?_, ?_, ?_⟩, fun b hb => ?_⟩
          · rw [e]; exact HM1.out.keep HB1.out (by simp [y1, y2, y3])
          · rw [e]; have := HC1.out; rwa [zeroI_end] at this
          · rw [e]; have := HE1.out; rwa [zeroI_end] at this
          · rw [e]; have := HF1.out; rwa [zeroI_end] at this
          · rw [e]; exact HQ.out.mod HM1.out (fun b hb => by have := HFQ.out b hb; simp [this])
          · exact (HG.out.mod0 HM.out).mod HM1.out (fun b hb => by have := hfg b hb; simp only [List.mem_cons, List.not_mem_nil, or_false]; omega)
          · intro h; exact (HFQ.out _ h).2.1 rfl
          · intro h; exact (HFQ.out _ h).2.2.1 rfl
          · intro h; exact (HFQ.out _ h).2.2.2.1 rfl
          · intro h; exact (HFQ.out _ h).2.2.2.2 rfl
          · exact nin _ hlo.1
          · exact nin _ hlo.2.1
          · exact nin _ hlo.2.2.1
          · exact nin _ hlo.2.2.2
          · exact fun b hb => nin _ (HFQ.out b hb).1
          · have h1 := hfg b hb
            have h2 := HM.out.size
            have h3 := HM1.out.size
            omega
        have hmw : Mod [] w wr := HM.out.then HM1.out (fun b hb => Or.inr (by simp only [List.mem_cons, List.not_mem_nil, or_false] at hb; omega))
        have HSE := Lib.hid hse
        have HMW := Lib.hid hmw
        have HSF : Hid (∀ b ∈ seF sp cb eb fb Fq, w.heap.size ≤ b) := fun b hb => by
          rcases mem_seF.1 hb with rfl | rfl | rfl | rfl | hb
          · exact hlo.1
          · exact hlo.2.1
          · exact hlo.2.2.1
          · exact hlo.2.2.2
          · exact (HFQ.out b hb).1
        have HE0 : Hid (n * D.S = k) := HN.out
        clear hse hmw HC1 HE1 HF1 HM1 HB1 HQ HM HL HNE HFQ HGL HN nin hfg hlo y1 y2 y3 y4 y5 y6
        go_wp2_with fail
        obtain ⟨w2, rfl⟩ : ∃ w2 : World, w2 = wr := ⟨_, rfl⟩
        go_loopw [66] (fun u wr => ∃ (i : Nat) (Fq' : List Nat), i ≤ at_.length ∧ u = .int .i64 i ∧ Hid (Se wr sp cb eb fb q Fq' Fg (.func (.func fk) #[] #[]) g n E D ⟨fun _ => -1, fun _ => -1, fun _ => -1, KL D.S (at_.take i)⟩ 0) ∧ Hid (Mod [] w wr) ∧ Hid (∀ b ∈ seF sp cb eb fb Fq', w.heap.size ≤ b)) (fun u _ => at_.length - (intOf u).toNat)
        case atStart => exact ⟨0, Fq, Nat.zero_le _, rfl, HSE, HMW, HSF⟩
        case round =>
          obtain ⟨i, Fq', hi, rfl, HS1, HM1, HF1⟩ := hrel
          clear HSE HMW HSF
          by_cases hlt2 : i < at_.length
          · obtain ⟨⟨v', s'⟩, hx⟩ : ∃ x, at_[i]? = some x := ⟨_, List.getElem?_eq_getElem hlt2⟩
            obtain ⟨hv', hs'⟩ := HOK.out _ (List.mem_of_getElem? hx)
            simp only at hv' hs'
            rcases HAT.out with ⟨_, h0, _⟩ | ⟨hb, ho, c', hv1, _, _, _, hbl, hcell⟩
            · omega
            injection hv1 with hv1 hv2 hv3
            subst hv1
            have hc3 := spCells_get at_ i _ hx
            have t0 := HM1.out.cell (hcell _ _ hc3.1) (by simp)
            have t1 := HM1.out.cell (hcell _ _ hc3.2) (by simp)
            rw [← Nat.add_assoc] at t1
            have b3 : (0 : Int) ≤ (i : Int) := by omega
            have b4 : (i : Int) < (at_.length : Int) := by omega
            have HXX := Lib.hid hx
            clear hcell hc3 hv2 hv3 hx
            go_wp2_with fail
            have hB := Blk.new wr #[.int .i64 v', .int .i64 s'] 84
            have hM : Mod [] wr (wr.alloc (.cells #[.int .i64 v', .int .i64 s'] 84)) := (Mod.refl _ _).alloc _
            generalize (wr.alloc (.cells #[.int .i64 v', .int .i64 s'] 84)) = W2 at hB hM ⊢
            generalize hBB : wr.heap.size = B at hB ⊢
            have HBQ : Hid (B ∉ Fq') := fun hb => by have := HS1.out.q.lt B hb; omega
            have hsx := HS1.out.mod0 hM
            have hmx := HM1.out.trans hM
            have HS4 := Lib.hid hsx
            have HM5 := Lib.hid hmx
            have HB := Lib.hid hB
            clear HS1 HM1 hB hM hsx hmx t0 t1
            have q2 : W2.cell? ⟨sp, 2, none⟩ = some (.pointer (some ⟨q, 0, none⟩)) := HS4.out.b.get rfl
            have d0 : W2.cell? ⟨B, 0, none⟩ = some (.int .i64 v') := HB.out.get rfl
            have d1 : W2.cell? ⟨B, 1, none⟩ = some (.int .i64 s') := HB.out.get rfl
            have zs2 : sp < W2.heap.size := HS4.out.b.lt
            obtain ⟨_, _, _, _, _, ev2, nv2, av2, a2, bb2, VB2, k1, k2, hE, hNx, k5, hA, k7, k8, k9⟩ := HS4.out.g
            obtain ⟨A2, c2, rfl, g2, g2'⟩ := hNx.form
            have p3 : W2.cell? ⟨g, 3, none⟩ = some (.slice A2 D.S c2) := k1.get rfl
            have zg : g < W2.heap.size := k1.lt
            have zB : B < W2.heap.size := HB.out.lt
            have HGG := Lib.hid k2
            clear hE hNx hA k1 k2 k5 k7 k8 k9
            have hto : v' * D.S + s' < k := by
              have h1 : (v' + 1) * D.S ≤ n * D.S := Nat.mul_le_mul_right _ hv'
              rw [Nat.add_mul, HE0.out] at h1
              omega
            have hidr := id_raw g D.S v' s' A2 c2 W2.drew p3 (by omega)
            obtain ⟨tt, htt⟩ : ∃ tt, v' * D.S + s' = tt := ⟨_, rfl⟩
            rw [htt] at hidr hto
            have HID := Lib.hid hidr
            have HTT := Lib.hid htt
            have HK0 : Hid (∀ W, Mod [] W2 W → Qu W Fq' q (n * D.S) (KL D.S (at_.take i))) := fun W hm => HS4.out.q.mod hm (fun _ _ => by simp)
            clear hidr htt
            go_region_held3 (fun w' => w'.cell? ⟨sp, 2, none⟩ = some (.pointer (some ⟨q, 0, none⟩)) ∧ w'.cell? ⟨B, 0, none⟩ = some (.int .i64 v') ∧ w'.cell? ⟨B, 1, none⟩ = some (.int .i64 s')) (go_keep)
              (first
                | (go_at_call 63; refine HID.out.mono ?_; rintro e w4 ⟨rfl, hm4⟩; have M4 : Mod [] W2 w4 := ((Mod.refl [] W2).drew).trans hm4; have m0 := M4.cell q2 (by simp); have m1 := M4.cell d0 (by simp); have m2 := M4.cell d1 (by simp); have HM6 := Lib.hid M4; clear hm4 M4)
                | (go_at_call 83; refine (put_calls (w := _) (HK0.out _ (by first | exact HM6.out | exact HM6.out.drew)) tt tt 0 rfl (HE0.out ▸ hto)).mono ?_; rintro e w5 ⟨rfl, Fq3, hq3, hm3, hF3⟩; have M5 : Mod Fq' W2 w5 := (HM6.out.nil).trans hm3; have n0 := M5.cell q2 HS4.out.d.sq; have n1 := M5.cell d0 HBQ.out; have n2 := M5.cell d1 HBQ.out; have HQ3 := Lib.hid hq3; have HM8 := Lib.hid M5; have HF3 := Lib.hid hF3; clear hq3 hm3 M5 hF3))
            all_goals go_wp2_with fail
            have hmq : Mod [] w w5 := HM5.out.then HM8.out (fun b hb => Or.inr (HF1.out b (by simp [seF, hb])))
            have hfq : ∀ b ∈ Fq3, w.heap.size ≤ b := fun b hb => by
              rcases HF3.out b hb with h | h
              · exact HF1.out b (by simp [seF, h])
              · have h1 := HM6.out.size
                have h2 := HM5.out.size
                omega
            have hse := HS4.out.queue HQ3.out HM8.out (fun b hb => by
              rcases HF3.out b hb with h | h
              · exact Or.inl h
              · have h1 := HM6.out.size
                exact Or.inr (by omega))
            refine ⟨⟨i + 1, Fq3, by omega, by go_num, ?_, hmq, fun b hb => ?_⟩, by simp [intOf]; omega⟩
            · show Se _ _ _ _ _ _ _ _ _ _ _ _ _ _ _
              rw [take_snoc' HXX.out, KL_snoc]
              simp only [HTT.out]
              exact hse
            · rcases mem_seF.1 hb with rfl | rfl | rfl | rfl | hb
              · exact HF1.out _ (by simp [seF])
              · exact HF1.out _ (by simp [seF])
              · exact HF1.out _ (by simp [seF])
              · exact HF1.out _ (by simp [seF])
              · exact hfq b hb
          · obtain rfl : i = at_.length := by omega
            go_wp2_with fail
            go_ret
            have hs2 := HS1.out
            rw [List.take_length] at hs2
            exact ⟨sp, rfl, cb, eb, fb, q, Fq', hs2, HM1.out, HF1.out⟩
end Go.Proofs.Ytekeondobdjppaa
