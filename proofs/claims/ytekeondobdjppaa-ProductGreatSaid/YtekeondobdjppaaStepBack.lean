/- One step of a search: walk. -/
import Derived.Test.YtekeondobdjppaaSe
namespace Go.Proofs.Ytekeondobdjppaa
open Go.RowKit

set_option maxRecDepth 100000 in
set_option maxHeartbeats 4000000 in
theorem stepBack_calls {w : World} {sp cb eb fb q : Nat} {Fq Fg : List Nat} {g n : Nat} {E : List Ed} {D : Dm} {st : St} {l : Int} (hE4 : E.length ≤ 1000)
    (h : Se w sp cb eb fb q Fq Fg (.func (.func 58) #[] #[]) g n E D st l) (hK : ∀ id k, st.K id = some k → 0 ≤ k ∧ k ≤ 4000000000000000000) :
    Calls Try.prog 61 #[.pointer (some ⟨sp, 0, none⟩)] w fun e w' =>
      (e = .returned (.tuple #[.int .i64 0, .bool false]) ∧ (∀ id, st.K id = none) ∧ w = w') ∨
      ∃ (id : Nat) (key : Int), e = .returned (.tuple #[.int .i64 id, .bool true]) ∧ id < n * D.S ∧ st.K id = some key ∧ (∀ id' k', st.K id' = some k' → key < k' ∨ (key = k' ∧ id ≤ id')) ∧
        ∃ Fq', Se w' sp cb eb fb q Fq' Fg (.func (.func 58) #[] #[]) g n E D (stepSt E D.S id key (hopsBack E D (id / D.S) (id % D.S)) st) key ∧ Mod (seF sp cb eb fb Fq) w w' ∧ ∀ b ∈ Fq', b ∈ Fq ∨ w.heap.size ≤ b := by
  have q0 : w.cell? ⟨sp, 0, none⟩ = some (.pointer (some ⟨g, 0, none⟩)) := h.b.get rfl
  have q2 : w.cell? ⟨sp, 2, none⟩ = some (.pointer (some ⟨q, 0, none⟩)) := h.b.get rfl
  have zs : sp < w.heap.size := h.b.lt
  have HS := Lib.hid h
  have HK := Lib.hid hK
  clear h hK
  go_enter Try.func61, Try.ntmps61
  go_wp2_with fail
  refine (queuePop_calls HS.out.q).mono ?_
  rintro e w1 (⟨rfl, hn, rfl⟩ | ⟨id, key, rfl, hk, hmin, Fq1, hq1, hm1, hF1⟩)
  · have HN := Lib.hid hn
    clear hn
    go_wp2_with fail
    go_ret2
    exact Or.inl ⟨rfl, HN.out, rfl⟩
  · have hid : id < n * D.S := HS.out.q.id_lt hk
    have hkey := HK.out _ _ hk
    have HS1 := Lib.hid (HS.out.queue hq1 hm1 hF1)
    have HM1 := Lib.hid hm1
    have HF1 := Lib.hid hF1
    have HKK := Lib.hid hk
    have HMIN := Lib.hid hmin
    clear hq1 hm1 hF1 hk hmin q0 q2
    have q0 : w1.cell? ⟨sp, 0, none⟩ = some (.pointer (some ⟨g, 0, none⟩)) := HS1.out.b.get rfl
    have q2 : w1.cell? ⟨sp, 2, none⟩ = some (.pointer (some ⟨q, 0, none⟩)) := HS1.out.b.get rfl
    have q3 : w1.cell? ⟨sp, 3, none⟩ = some (.slice (some ⟨cb, 0, none⟩) (n * D.S) (n * D.S)) := HS1.out.b.get rfl
    have q6 : w1.cell? ⟨sp, 6, none⟩ = some (.int .i64 l) := HS1.out.b.get rfl
    have qc : w1.cell? ⟨cb, id, none⟩ = some (.int .i64 (st.c id)) := HS1.out.c.get (rowI_get hid)
    have z1 : sp < w1.heap.size := HS1.out.b.lt
    have z2 : cb < w1.heap.size := HS1.out.c.lt
    have f1 := HS1.out.c.frozen id
    have f2 := HS1.out.b.frozen 6
    have ne1 : sp ≠ cb := HS.out.d.sc
    have b1 : (0 : Int) ≤ (id : Int) := by omega
    have b2 : (id : Int) < ((n * D.S : Nat) : Int) := by omega
    generalize hN : n * D.S = N at b2 q3 hid
    go_wp2_with fail
    have hs2 := (HS1.out.cost id key).least key
    have hm2 : Mod (seF sp cb eb fb Fq) w ((w1.setCell ⟨cb, id, none⟩ (.int .i64 key)).setCell ⟨sp, 6, none⟩ (.int .i64 key)) := ((HM1.out.more (fun b hb => mem_seF.2 (by simp [hb]))).setCell (p := ⟨cb, id, none⟩) (Or.inl (mem_seF.2 (by simp))) _).setCell (p := ⟨sp, 6, none⟩) (Or.inl (mem_seF.2 (by simp))) _
    have HS2 := Lib.hid hs2
    have HM2 := Lib.hid hm2
    clear hs2 hm2 HS1 HM1 q0 q2 q3 q6 qc z1 z2 f1 f2
    generalize ((w1.setCell ⟨cb, id, none⟩ (.int .i64 key)).setCell ⟨sp, 6, none⟩ (.int .i64 key)) = W at HS2 HM2 ⊢
    have q0 : W.cell? ⟨sp, 0, none⟩ = some (.pointer (some ⟨g, 0, none⟩)) := HS2.out.b.get rfl
    have q1 : W.cell? ⟨sp, 1, none⟩ = some (.func (.func 58) #[] #[]) := HS2.out.b.get rfl
    have z1 : sp < W.heap.size := HS2.out.b.lt
    obtain ⟨_, _, _, hok, hD, ev, nv, av, a, bb, VB, k1, k2, hE, hNx, k5, hA, k7, k8, k9⟩ := HS2.out.g
    obtain ⟨A1, c1, rfl, g1, g1'⟩ := hE.form
    obtain ⟨A2, c2, rfl, g2, g2'⟩ := hNx.form
    have p1 : W.cell? ⟨g, 1, none⟩ = some (.slice A1 E.length c1) := k1.get rfl
    have p3 : W.cell? ⟨g, 3, none⟩ = some (.slice A2 D.S c2) := k1.get rfl
    have zg : g < W.heap.size := k1.lt
    have hS0 : 0 < D.S := hD.1
    have hN2 : N ≤ 1000000 := hN ▸ HS2.out.q.n_le
    have hv : id / D.S < n := by
      rw [Nat.div_lt_iff_lt_mul hS0, hN]; exact hid
    have hs : id % D.S < D.S := Nat.mod_lt _ hS0
    have HOK := Lib.hid hok
    have HD := Lib.hid hD
    have HE := Lib.hid hE
    clear hok hD hE hNx hA k1 k2 k5 k7 k8 k9
    go_region_held3 (fun w' => w'.cell? ⟨sp, 0, none⟩ = some (.pointer (some ⟨g, 0, none⟩)) ∧ w'.cell? ⟨sp, 1, none⟩ = some (.func (.func 58) #[] #[])) (go_keep)
      (first
        | (go_at_call 62; refine (spot_raw g D.S id A2 c2 W.drew p3 hS0 (by omega)).mono ?_; rintro e w2 ⟨rfl, hm2⟩; have M2 : Mod [] W w2 := ((Mod.refl [] W).drew).trans hm2; have m0 := M2.cell q0 (by simp); have m1 := M2.cell q1 (by simp); have HM3 := Lib.hid M2; clear hm2 M2)
        | (go_at_call 58; refine (back_calls (HS2.out.g.mod0 (by first | exact HM3.out.drew | exact HM3.out)) hE4 _ _ hv hs).mono ?_; rintro e w3 ⟨u, rfl, ho, hm3, hf⟩; obtain ⟨A3, c3, rfl⟩ := own_any ho; have M3 : Mod [] W w3 := (by first | exact HM3.out.trans hm3 | exact HM3.out.drew.trans hm3); have n0 := M3.cell q0 (by simp); have n1 := M3.cell q1 (by simp); have HO := Lib.hid ho; have HM4 := Lib.hid M3; have HF4 : Hid (∀ k, (Value.slice A3 (hopsBack E D (id / D.S) (id % D.S)).length c3).ownBlock = some k → W.heap.size ≤ k) := (fun k hk => Nat.le_trans HM3.out.size (by simpa using hf k hk)); clear ho hm3 M3 hf))
    obtain ⟨L, hL⟩ : ∃ L, hopsBack E D (id / D.S) (id % D.S) = L := ⟨_, rfl⟩
    have hLok : ∀ x ∈ L, HopOk n E D x := hL ▸ hopsBack_ok HOK.out HD.out hs
    have HLOK := Lib.hid hLok
    rw [hL] at HO HF4
    simp only [hL]
    have HLL := Lib.hid hL
    clear hL hLok m0 m1 n0 n1 HM3
    go_wp2_with fail
    obtain ⟨wo, rfl⟩ : ∃ wo : World, wo = w3 := ⟨_, rfl⟩
    have hs3 := HS2.out.mod0 HM4.out
    have HS3 := Lib.hid hs3
    have hnin : ∀ k, (Value.slice A3 L.length c3).ownBlock = some k → k ∉ seF sp cb eb fb Fq1 := fun k hk hk2 => by
      have h1 := HF4.out k hk
      have h2 := HS2.out.lt k hk2
      omega
    have HNIN := Lib.hid hnin
    clear hs3 hnin q0 q1 p1 p3 HS2
    go_loopw [48] (fun u wr => ∃ (i : Nat) (Fq2 : List Nat) (st2 : St), i ≤ L.length ∧ u = .int .i64 i ∧ Hid (st2 = stepSt E D.S id key (L.take i) st) ∧ Hid (Se wr sp cb eb fb q Fq2 Fg (.func (.func 58) #[] #[]) g n E D st2 key) ∧ Hid (Mod (seF sp cb eb fb Fq1) wo wr) ∧ Hid (∀ b ∈ Fq2, b ∈ Fq1 ∨ wo.heap.size ≤ b)) (fun u _ => L.length - (intOf u).toNat)
    case atStart => exact ⟨0, Fq1, _, Nat.zero_le _, rfl, rfl, HS3, Mod.refl _ _, fun b hb => Or.inl hb⟩
    case round =>
      obtain ⟨i, Fq2, st2, hi, rfl, HST, HSX, HMX, HFX⟩ := hrel
      clear HS3
      by_cases hlt : i < L.length
      · obtain ⟨⟨v', s', k⟩, hx⟩ : ∃ x, L[i]? = some x := ⟨_, List.getElem?_eq_getElem hlt⟩
        obtain ⟨hv', hs', hkE⟩ := HLOK.out _ (List.mem_of_getElem? hx)
        simp only at hv' hs' hkE
        rcases Sl.of_own HO.out with ⟨_, h0, _⟩ | ⟨hb, ho, c', hv1, _, _, hbm, hbl, hcell⟩
        · omega
        injection hv1 with hv1 hv2 hv3
        subst hv1
        have hbn : hb ∉ seF sp cb eb fb Fq1 := HNIN.out hb (by simp [Value.ownBlock])
        have hc3 := hopCells_get L i _ hx
        have t0 := HMX.out.cell (hcell _ _ hc3.1) hbn
        have t1 := HMX.out.cell (hcell _ _ hc3.2.1) hbn
        have t2 := HMX.out.cell (hcell _ _ hc3.2.2) hbn
        rw [← Nat.add_assoc] at t1 t2
        have b3 : (0 : Int) ≤ (i : Int) := by omega
        have b4 : (i : Int) < (L.length : Int) := by omega
        have HXX := Lib.hid hx
        clear hcell hc3 hv2 hv3 hbn hx hbm
        go_wp2_with fail
        have hB := Blk.new wr #[.int .i64 v', .int .i64 s', .int .i64 k] 116
        have hM : Mod [] wr (wr.alloc (.cells #[.int .i64 v', .int .i64 s', .int .i64 k] 116)) := (Mod.refl _ _).alloc _
        generalize (wr.alloc (.cells #[.int .i64 v', .int .i64 s', .int .i64 k] 116)) = W2 at hB hM ⊢
        generalize hBB : wr.heap.size = B at hB ⊢
        have hbq : B ∉ Fq2 := fun hb => by have := HSX.out.q.lt B hb; omega
        have hbs : B ∉ seF sp cb eb fb Fq2 := fun hb => by have := HSX.out.lt B hb; omega
        have HBQ := Lib.hid hbq
        have HBS := Lib.hid hbs
        clear hbq hbs
        have hsx := HSX.out.mod0 hM
        have hmx := HMX.out.trans hM.nil
        have HS4 := Lib.hid hsx
        have HM5 := Lib.hid hmx
        have HB := Lib.hid hB
        clear HSX HMX hB hM hsx hmx t0 t1 t2
        have q0 : W2.cell? ⟨sp, 0, none⟩ = some (.pointer (some ⟨g, 0, none⟩)) := HS4.out.b.get rfl
        have d0 : W2.cell? ⟨B, 0, none⟩ = some (.int .i64 v') := HB.out.get rfl
        have d1 : W2.cell? ⟨B, 1, none⟩ = some (.int .i64 s') := HB.out.get rfl
        obtain ⟨_, _, _, _, _, ev, nv, av, a, bb, VB, k1, k2, hE, hNx, k5, hA, k7, k8, k9⟩ := HS4.out.g
        obtain ⟨A1, c1, rfl, g1, g1'⟩ := hE.form
        obtain ⟨A2, c2, rfl, g2, g2'⟩ := hNx.form
        have p1 : W2.cell? ⟨g, 1, none⟩ = some (.slice A1 E.length c1) := k1.get rfl
        have p3 : W2.cell? ⟨g, 3, none⟩ = some (.slice A2 D.S c2) := k1.get rfl
        have zg : g < W2.heap.size := k1.lt
        have zB : B < W2.heap.size := HB.out.lt
        have HE2 := Lib.hid hE
        have HGG := Lib.hid k2
        clear hE hNx hA k1 k2 k5 k7 k8 k9
        have hto : v' * D.S + s' < N := by
          have h1 : (v' + 1) * D.S ≤ n * D.S := Nat.mul_le_mul_right _ hv'
          rw [Nat.add_mul] at h1
          omega
        have hidr := id_raw g D.S v' s' A2 c2 W2.drew p3 (by omega)
        obtain ⟨tt, htt⟩ : ∃ tt, v' * D.S + s' = tt := ⟨_, rfl⟩
        rw [htt] at hidr hto
        have HID := Lib.hid hidr
        clear hidr
        go_region_held3 (fun w' => w'.cell? ⟨sp, 0, none⟩ = some (.pointer (some ⟨g, 0, none⟩)) ∧ w'.cell? ⟨B, 0, none⟩ = some (.int .i64 v') ∧ w'.cell? ⟨B, 1, none⟩ = some (.int .i64 s')) (go_keep)
          ((go_at_call 63; refine HID.out.mono ?_; rintro e w4 ⟨rfl, hm4⟩; have M4 : Mod [] W2 w4 := ((Mod.refl [] W2).drew).trans hm4; have m0 := M4.cell q0 (by simp); have m1 := M4.cell d0 (by simp); have m2 := M4.cell d1 (by simp); have HM6 := Lib.hid M4; clear hm4 M4))
        go_wp2_with fail
        have hsx := HS4.out.mod0 HM6.out
        have hmx := HM5.out.trans HM6.out.nil
        have HB2 := Lib.hid (HM6.out.keep HB.out (by simp))
        have HS5 := Lib.hid hsx
        have HM7 := Lib.hid hmx
        have HE3 := Lib.hid (HE2.out.mod HM6.out (fun _ _ => by simp))
        have p1 := HM6.out.cell p1 (by simp)
        have HTT := Lib.hid htt
        clear hsx hmx HS4 HM5 HB HE2 HID p3 q0 d0 d1 htt m0 m1 m2 zg zB
        generalize hW4 : w4 = W4 at HS5 HM7 HB2 HE3 p1
        clear HM6
        subst hW4
        have q0 : w4.cell? ⟨sp, 0, none⟩ = some (.pointer (some ⟨g, 0, none⟩)) := HS5.out.b.get rfl
        have q2 : w4.cell? ⟨sp, 2, none⟩ = some (.pointer (some ⟨q, 0, none⟩)) := HS5.out.b.get rfl
        have q3 : w4.cell? ⟨sp, 3, none⟩ = some (.slice (some ⟨cb, 0, none⟩) (n * D.S) (n * D.S)) := HS5.out.b.get rfl
        rw [hN] at q3
        have qc : w4.cell? ⟨cb, tt, none⟩ = some (.int .i64 (st2.c tt)) := HS5.out.c.get (rowI_get (hN ▸ hto))
        have d2 : w4.cell? ⟨B, 2, none⟩ = some (.int .i64 k) := HB2.out.get rfl
        rcases HE3.out with ⟨_, h0, _⟩ | ⟨eb', eo, c', hv, _, _, hebg, hbl2, hcell⟩
        · omega
        injection hv with hv1 hv2 hv3
        subst hv1
        have hE? := edAt_of hkE
        have hc4 := (edCells_get E k _ hE?).2.2.2
        have qe := hcell _ _ hc4
        rw [← Nat.add_assoc] at qe
        have hec := (HOK.out _ (List.mem_of_getElem? hE?)).2.2.2
        generalize hec' : (edAt E k).c = ec at qe hec
        have HEC := Lib.hid hec'
        have b5 : (0 : Int) ≤ (tt : Int) := by omega
        have b6 : (tt : Int) < (N : Int) := by omega
        have b7 : (0 : Int) ≤ (k : Int) := by omega
        have b8 : (k : Int) < (E.length : Int) := by omega
        have b9 : (0 : Int) ≤ (ec : Int) := by omega
        have b10 : (ec : Int) ≤ 2147483647 := by omega
        have b11 := hkey.1
        have b12 := hkey.2
        clear hcell hc4 hE? hec' hv2 hv3
        have hw : IntKind.i64.wrap (key + (ec : Int)) = key + (ec : Int) := by rw [IntKind.wrap_i64]; omega
        have HW := Lib.hid hw
        clear hw
        by_cases hc : st2.c tt < 0
        · cases hp : putB st2.K tt (key + ec) with
          | false =>
            have hput := put_calls (w := w4.drew) (HS5.out.q.mod (Mod.refl [] w4).drew (fun _ _ => by simp)) tt tt (key + ec) rfl (hN ▸ hto)
            rw [hp] at hput
            have HPUT := Lib.hid hput
            clear hput
            go_region_held3 (fun w' => w'.cell? ⟨sp, 0, none⟩ = some (.pointer (some ⟨g, 0, none⟩)) ∧ w'.cell? ⟨sp, 2, none⟩ = some (.pointer (some ⟨q, 0, none⟩)) ∧ w'.cell? ⟨sp, 3, none⟩ = some (.slice (some ⟨cb, 0, none⟩) N N) ∧ w'.cell? ⟨cb, tt, none⟩ = some (.int .i64 (st2.c tt)) ∧ w'.cell? ⟨B, 2, none⟩ = some (.int .i64 k) ∧ w'.cell? ⟨g, 1, none⟩ = some (.slice (some ⟨eb', eo, none⟩) E.length c1) ∧ w'.cell? ⟨eb', eo + k * 4 + 3, none⟩ = some (.int .i64 ec)) (go_keep)
              ((go_at_call 83; rw [HW.out]; refine HPUT.out.mono ?_; rintro e w5 ⟨rfl, Fq3, hq3, hm3, hF3⟩; have M5 : Mod Fq2 w4 w5 := ((Mod.refl Fq2 w4).drew).trans hm3; have n0 := M5.cell q0 HS5.out.d.sq; have n1 := M5.cell q2 HS5.out.d.sq; have n2 := M5.cell q3 HS5.out.d.sq; have n3 := M5.cell qc HS5.out.d.cq; have n4 := M5.cell d2 HBQ.out; have n5 := M5.cell p1 (fun hb => HS5.out.d.qg _ hb HGG.out); have n6 := M5.cell qe (fun hb => HS5.out.d.qg _ hb hebg); have HQ3 := Lib.hid hq3; have HM8 := Lib.hid M5; have HF3 := Lib.hid hF3; clear hq3 hm3 M5 hF3))
            go_wp2_with fail
            have hmq : Mod (seF sp cb eb fb Fq1) wo w5 := HM7.out.then HM8.out (fun b hb => by
              rcases HFX.out b hb with h | h
              · exact Or.inl (by simp [seF, h])
              · exact Or.inr h)
            have hfq : ∀ b ∈ Fq3, b ∈ Fq1 ∨ wo.heap.size ≤ b := fun b hb => by
              rcases HF3.out b hb with h | h
              · exact HFX.out b h
              · have := HM7.out.size
                simp at h
                exact Or.inr (by omega)
            have hse := HS5.out.queue HQ3.out HM8.out (fun b hb => by simpa using HF3.out b hb)
            have hput : putK st2.K tt (key + ec) = st2.K := by simp [putK, hp]
            rw [hput] at hse
            refine ⟨⟨i + 1, Fq3, st2, by omega, by go_num, ?_, hse, hmq, hfq⟩, by simp [intOf]; omega⟩
            show _ = _
            rw [take_snoc' HXX.out, stepSt_snoc, ← HST.out]
            simp [relax1, hopId, HTT.out, HEC.out, hp]
          | true =>
            have hput := put_calls (w := w4.drew) (HS5.out.q.mod (Mod.refl [] w4).drew (fun _ _ => by simp)) tt tt (key + ec) rfl (hN ▸ hto)
            rw [hp] at hput
            have HPUT := Lib.hid hput
            clear hput
            go_region_held3 (fun w' => w'.cell? ⟨sp, 0, none⟩ = some (.pointer (some ⟨g, 0, none⟩)) ∧ w'.cell? ⟨sp, 2, none⟩ = some (.pointer (some ⟨q, 0, none⟩)) ∧ w'.cell? ⟨sp, 3, none⟩ = some (.slice (some ⟨cb, 0, none⟩) N N) ∧ w'.cell? ⟨cb, tt, none⟩ = some (.int .i64 (st2.c tt)) ∧ w'.cell? ⟨B, 2, none⟩ = some (.int .i64 k) ∧ w'.cell? ⟨g, 1, none⟩ = some (.slice (some ⟨eb', eo, none⟩) E.length c1) ∧ w'.cell? ⟨eb', eo + k * 4 + 3, none⟩ = some (.int .i64 ec)) (go_keep)
              ((go_at_call 83; rw [HW.out]; refine HPUT.out.mono ?_; rintro e w5 ⟨rfl, Fq3, hq3, hm3, hF3⟩; have M5 : Mod Fq2 w4 w5 := ((Mod.refl Fq2 w4).drew).trans hm3; have n0 := M5.cell q0 HS5.out.d.sq; have n1 := M5.cell q2 HS5.out.d.sq; have n2 := M5.cell q3 HS5.out.d.sq; have n3 := M5.cell qc HS5.out.d.cq; have n4 := M5.cell d2 HBQ.out; have n5 := M5.cell p1 (fun hb => HS5.out.d.qg _ hb HGG.out); have n6 := M5.cell qe (fun hb => HS5.out.d.qg _ hb hebg); have HQ3 := Lib.hid hq3; have HM8 := Lib.hid M5; have HF3 := Lib.hid hF3; clear hq3 hm3 M5 hF3))
            go_wp2_with fail
            have hmq : Mod (seF sp cb eb fb Fq1) wo w5 := HM7.out.then HM8.out (fun b hb => by
              rcases HFX.out b hb with h | h
              · exact Or.inl (by simp [seF, h])
              · exact Or.inr h)
            have hfq : ∀ b ∈ Fq3, b ∈ Fq1 ∨ wo.heap.size ≤ b := fun b hb => by
              rcases HF3.out b hb with h | h
              · exact HFX.out b h
              · have := HM7.out.size
                simp at h
                exact Or.inr (by omega)
            have hse := HS5.out.queue HQ3.out HM8.out (fun b hb => by simpa using HF3.out b hb)
            have HSE := Lib.hid hse
            have HMQ := Lib.hid hmq
            have HFQ := Lib.hid hfq
            clear hse hmq hfq n0 n1 n2 n3 n5 n6
            have x4 : w5.cell? ⟨sp, 4, none⟩ = some (.slice (some ⟨eb, 0, none⟩) (n * D.S) (n * D.S)) := HSE.out.b.get rfl
            have x5 : w5.cell? ⟨sp, 5, none⟩ = some (.slice (some ⟨fb, 0, none⟩) (n * D.S) (n * D.S)) := HSE.out.b.get rfl
            rw [hN] at x4 x5
            have xe : w5.cell? ⟨eb, tt, none⟩ = some (.int .i64 (st2.e tt)) := HSE.out.e.get (rowI_get (hN ▸ hto))
            have xf : w5.cell? ⟨fb, tt, none⟩ = some (.int .i64 (st2.f tt)) := HSE.out.f.get (rowI_get (hN ▸ hto))
            have ff1 := HSE.out.e.frozen tt
            have ff2 := HSE.out.f.frozen tt
            have y1 := HSE.out.d.se
            have y2 := HSE.out.d.sf
            have y3 := HSE.out.d.ef
            have y4 : B ≠ eb := fun hb => HBS.out (by simp [seF, hb])
            have y5 : B ≠ fb := fun hb => HBS.out (by simp [seF, hb])
            have hkeep : ∀ W, Mod [eb, fb] w5 W → (W.cell? ⟨sp, 4, none⟩ = some (.slice (some ⟨eb, 0, none⟩) N N) ∧ W.cell? ⟨sp, 5, none⟩ = some (.slice (some ⟨fb, 0, none⟩) N N) ∧ W.cell? ⟨B, 2, none⟩ = some (.int .i64 k)) := fun W hm => ⟨hm.cell x4 (by simp [y1, y2]), hm.cell x5 (by simp [y1, y2]), hm.cell n4 (by simp [y4, y5])⟩
            have HKEEP := Lib.hid hkeep
            clear hkeep
            go_region_held3 (fun w' => w'.cell? ⟨sp, 4, none⟩ = some (.slice (some ⟨eb, 0, none⟩) N N) ∧ w'.cell? ⟨sp, 5, none⟩ = some (.slice (some ⟨fb, 0, none⟩) N N) ∧ w'.cell? ⟨B, 2, none⟩ = some (.int .i64 k)) (exact HKEEP.out _ (by repeat (first | exact Mod.refl _ _ | refine Mod.drew ?_ | refine Mod.setCell ?_ (Or.inl (by simp)) _))) (fail)
            all_goals go_wp2_with fail
            have hs6 := (HSE.out.edge tt (k : Int)).from' tt (id : Int)
            refine ⟨⟨i + 1, Fq3, _, by omega, by go_num, ?_, hs6.mod0 (Mod.refl [] _).drew, ((HMQ.out.setCell (p := ⟨eb, tt, none⟩) (Or.inl (by simp [seF])) _).setCell (p := ⟨fb, tt, none⟩) (Or.inl (by simp [seF])) _).drew, HFQ⟩, by simp [intOf]; omega⟩
            show _ = _
            rw [take_snoc' HXX.out, stepSt_snoc, ← HST.out]
            simp [relax1, hopId, HTT.out, HEC.out, hp, hc]
        · have hc0 : 0 ≤ st2.c tt := by omega
          go_region
          all_goals go_wp2_with fail
          refine ⟨⟨i + 1, Fq2, st2, by omega, by go_num, ?_, HS5.out.mod0 (Mod.refl [] w4).drew, HM7.out.drew, HFX⟩, by simp [intOf]; omega⟩
          show _ = _
          rw [take_snoc' HXX.out, stepSt_snoc, ← HST.out]
          simp only [relax1, hopId, HTT.out]
          rw [if_neg (fun h => by omega)]
      · obtain rfl : i = L.length := by omega
        go_wp2_with fail
        go_ret2
        rw [List.take_length] at HST
        refine Or.inr ⟨id, key, rfl, hN ▸ hid, HKK.out, HMIN.out, Fq2, by rw [HLL.out, ← HST.out]; exact HSX.out, ((HM2.out.trans HM4.out.nil).then HMX.out (fun b hb => ?_)), fun b hb => ?_⟩
        · rcases mem_seF.1 hb with rfl | rfl | rfl | rfl | hb
          · exact Or.inl (by simp [seF])
          · exact Or.inl (by simp [seF])
          · exact Or.inl (by simp [seF])
          · exact Or.inl (by simp [seF])
          · rcases HF1.out b hb with h | h
            · exact Or.inl (by simp [seF, h])
            · exact Or.inr h
        · rcases HFX.out b hb with h | h
          · exact HF1.out b h
          · have := (HM2.out.trans HM4.out.nil).size
            exact Or.inr (by omega)
end Go.Proofs.Ytekeondobdjppaa
