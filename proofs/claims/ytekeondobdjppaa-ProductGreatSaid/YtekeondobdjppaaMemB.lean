/- New rows of zero values. -/
import Derived.Test.YtekeondobdjppaaMem
import Derived.Deep.OwnRows
import Derived.Lib.Hide
namespace Go.Proofs.Ytekeondobdjppaa
open Go.RowKit

/-- n times the cells z. -/
def zrow (z : Array Value) (n : Nat) : Array Value := ((List.replicate n z.toList).flatten).toArray
theorem flatten_rep (n : Nat) (z : List Value) (k : Nat) (h : k < n * z.length) : ((List.replicate n z).flatten)[k]? = z[k % z.length]? := by
  induction n generalizing k with
  | zero => simp at h
  | succ n ih =>
    rw [List.replicate_succ, List.flatten_cons]
    have hz : 0 < z.length := by
      rcases Nat.eq_zero_or_pos z.length with h0 | h0
      · rw [h0] at h; omega
      · exact h0
    rcases Nat.lt_or_ge k z.length with hk | hk
    · rw [List.getElem?_append_left hk, Nat.mod_eq_of_lt hk]
    · rw [List.getElem?_append_right hk, ih (k - z.length) (by rw [Nat.succ_mul] at h; omega), ← Nat.mod_eq_sub_mod hk]
theorem flatten_rep_length (n : Nat) (z : List Value) : ((List.replicate n z).flatten).length = n * z.length := by
  induction n with
  | zero => simp
  | succ n ih => rw [List.replicate_succ, List.flatten_cons, List.length_append, ih, Nat.succ_mul]; omega
theorem made_zrow (z : Array Value) (n : Nat) : madeCells z (n * z.size) = zrow z n := by
  apply Array.ext
  · simp [zrow, size_madeCells]
  · intro i h1 h2
    have hi : i < n * z.size := by simpa [size_madeCells] using h1
    have hz : 0 < z.size := by
      rcases Nat.eq_zero_or_pos z.size with h0 | h0
      · rw [h0] at hi; omega
      · exact h0
    have e := flatten_rep n z.toList i (by simpa using hi)
    have hm : i % z.size < z.size := Nat.mod_lt _ hz
    have : (zrow z n)[i]? = some z[i % z.size] := by
      simp only [zrow, List.getElem?_toArray, e, Array.length_toList, Array.getElem?_toList]
      exact Array.getElem?_eq_getElem hm
    have h3 : (zrow z n)[i] = z[i % z.size] := by
      rw [Array.getElem?_eq_getElem h2] at this
      exact Option.some.inj this
    rw [h3]
    simp [madeCells, Array.getElem!_eq_getD, hm]
theorem run_mk {P : Program} {t e : TypeId} {z : Value} {size bytes : Nat} (T : AppT P t e z size bytes) (n : Nat) (hn : n ≤ 100000000) (hb : bytes ≤ 10000) (w : World) :
    (Instr.makeSlice t (.int .i64 n) (.int .i64 n)).run P w = .ok (.slice (some ⟨w.heap.size, 0, none⟩) n n) (w.alloc (.cells (zrow z.cells n) e)) := by
  obtain ⟨i, i1, i2, i3, i4⟩ := T.i
  have h1 : bytes * n ≤ 10000 * 100000000 := Nat.mul_le_mul hb hn
  have h2 : (bytes : Int) * (n : Int) ≤ 281474976710656 := by
    have : ((bytes * n : Nat) : Int) ≤ 281474976710656 := by omega
    rwa [Int.natCast_mul] at this
  have hr := run_make (P := P) w t e i z T.t i1 i2 .i64 .i64 n n (by omega) (Int.le_refl _) (by rw [i4]; exact h2) (by omega)
  simp only [Int.toNat_natCast] at hr
  rw [hr, i3, ← T.z, made_zrow]
theorem Blk.zrow {w : World} (z : Value) (n : Nat) (e : TypeId) (hz : z.cells = #[z]) : Blk (w.alloc (.cells (zrow z.cells n) e)) w.heap.size e (List.replicate n z) := by
  have := Blk.new w (Go.Proofs.Ytekeondobdjppaa.zrow z.cells n) e
  have e2 : (Go.Proofs.Ytekeondobdjppaa.zrow z.cells n).toList = List.replicate n z := by
    rw [hz]; simp only [Go.Proofs.Ytekeondobdjppaa.zrow]
    induction n with
    | zero => rfl
    | succ n ih => simp only [List.replicate_succ, List.flatten_cons] at ih ⊢; simp
  rwa [e2] at this
/-- Some elements appended, at the list of a plain region; they lie somewhere from address b, so on. -/
theorem list_apps {P : Program} {w : World} {ops : Array Oper} {rest : List Oper} {o : Oper} {a : Act} {Q : Exit → Act → World → Prop} (hgd : o.guard = none) (s x : Operand) (t : TypeId)
    (ho : o.op = .call { callee := .builtin .append, args := #[s, x], argTypes := #[t, t] })
    {e : TypeId} {z : Value} {size bytes : Nat} (T : AppT P t e z size bytes)
    (v : Value) (n : Nat) (xs : List Value) (hs : a.eval s = v) (hown : w.ownsRow 0 e size v n xs)
    (ad : Addr) (m c : Nat) (news : List Value) (hx : a.eval x = .slice (some ad) m c) (hl : news.length = m * size) (hnews : ∀ j u, news[j]? = some u → w.cell? (ad.add j) = some u) (h1 : ∀ u ∈ news, u.oneCell' = true)
    (h63 : n + m ≤ 1000000000) (hb : bytes ≤ 10000)
    (h : ∀ v' w', w'.ownsRow 0 e size v' (n + m) (xs ++ news) → w.grownBy w' v.ownBlock → (v'.ownBlock = v.ownBlock ∨ v'.ownBlock = some w.heap.size) → wpList P ops Q rest (a.put o.dst v') w') :
    wpList P ops Q (o :: rest) a w := by
  obtain ⟨i, i1, i2, i3, i4⟩ := T.i
  refine wpList_append_own_at w hgd s x t ho 0 e i z size bytes T.t i1 i2 i3 i4 T.z T.pos v n xs hs hown ad m c news hx hl hnews h1 (by simp only [maxLen]; omega) ?_ (Nat.zero_le _) (fun v' w' q1 q2 _ q4 => h v' w' q1 q2 q4)
  have : (n + m) * bytes ≤ 1000000000 * 10000 := Nat.mul_le_mul h63 hb
  omega
theorem cell_al {w : World} {a : Addr} {v : Value} (h : w.cell? a = some v) (o : Obj) : (w.alloc o).cell? a = some v := ((Mod.refl [] w).alloc o).cell h (by simp)
theorem add_off (b o j : Nat) : (⟨b, o, none⟩ : Addr).add j = ⟨b, o + j, none⟩ := by unfold Addr.add; split <;> simp_all
end Go.Proofs.Ytekeondobdjppaa
