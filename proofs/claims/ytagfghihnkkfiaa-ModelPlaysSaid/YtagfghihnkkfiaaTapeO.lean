/- The walk of package ctriemake's Tape.Op. -/
import Derived.Test.YtagfghihnkkfiaaTape
import Derived.Test.YtagfghihnkkfiaaFamB
import Derived.Deep.RegionWith
namespace Go.Proofs.Ytagfghihnkkfiaa
set_option linter.unusedVariables false
set_option linter.unusedSimpArgs false
open Go Go.RowKit Go.MapKept
theorem blk_frozen {w : World} {g : Nat} {t : TypeId} {cs : Array Value} (h : w.heap[g]? = some (.cells cs t (0, 0))) (i : Nat) : w.frozen? ⟨g, i, none⟩ = false := by
  simp [World.frozen?, h]
theorem TapeIs.setCell {w : World} {B bt : Nat} (h : TapeIs w B bt) {P j : Nat} (hP : B ≤ P) (hne : bt ≠ P) (v : Value) : TapeIs (w.setCell ⟨P, j, none⟩ v) B bt :=
  h.keep (Below.heap_setCell _ _ _ _ hne) (fun k hk => Below.heap_setCell _ _ _ _ (by simp only [ne_eq]; omega))
structure OpOk (o : OpD) : Prop where
  k0 : -9223372036854775808 ≤ o.kind
  k1 : o.kind ≤ 9223372036854775807
  h0 : -9223372036854775808 ≤ o.handle
  h1 : o.handle ≤ 9223372036854775807
  v0 : 0 ≤ o.value
  v1 : o.value ≤ 18446744073709551615
  e0 : 0 ≤ o.expect
  e1 : o.expect ≤ 18446744073709551615
def kinds20 : Array Value := #[.int .i64 1, .int .i64 1, .int .i64 2, .int .i64 3, .int .i64 4, .int .i64 5, .int .i64 5, .int .i64 6, .int .i64 7, .int .i64 7, .int .i64 8, .int .i64 9, .int .i64 10, .int .i64 11, .int .i64 12, .int .i64 13, .int .i64 1, .int .i64 7, .int .i64 9, .int .i64 5]
theorem kinds_at (R : Nat) (h : R < 20) : ∃ m : Int, kinds20[R]? = some (.int .i64 m) ∧ 0 ≤ m ∧ m ≤ 20 := by
  match R, h with
  | 0, _ => exact ⟨1, rfl, by decide, by decide⟩
  | 1, _ => exact ⟨1, rfl, by decide, by decide⟩
  | 2, _ => exact ⟨2, rfl, by decide, by decide⟩
  | 3, _ => exact ⟨3, rfl, by decide, by decide⟩
  | 4, _ => exact ⟨4, rfl, by decide, by decide⟩
  | 5, _ => exact ⟨5, rfl, by decide, by decide⟩
  | 6, _ => exact ⟨5, rfl, by decide, by decide⟩
  | 7, _ => exact ⟨6, rfl, by decide, by decide⟩
  | 8, _ => exact ⟨7, rfl, by decide, by decide⟩
  | 9, _ => exact ⟨7, rfl, by decide, by decide⟩
  | 10, _ => exact ⟨8, rfl, by decide, by decide⟩
  | 11, _ => exact ⟨9, rfl, by decide, by decide⟩
  | 12, _ => exact ⟨10, rfl, by decide, by decide⟩
  | 13, _ => exact ⟨11, rfl, by decide, by decide⟩
  | 14, _ => exact ⟨12, rfl, by decide, by decide⟩
  | 15, _ => exact ⟨13, rfl, by decide, by decide⟩
  | 16, _ => exact ⟨1, rfl, by decide, by decide⟩
  | 17, _ => exact ⟨7, rfl, by decide, by decide⟩
  | 18, _ => exact ⟨9, rfl, by decide, by decide⟩
  | 19, _ => exact ⟨5, rfl, by decide, by decide⟩
  | k + 20, h => exact absurd h (by omega)
/-- an operation whose key fits -/
def OpFit (o : OpD) : Prop := OpOk o ∧ o.key.size ≤ 140737488351232
def OpPost (e : Ending) : Prop := ∃ o : OpD, OpFit o ∧ e = .returned o.val
theorem key8_size {k : ByteArray} (h : k ∈ keys8) : k.size ≤ 3 := by
  simp only [keys8, List.mem_cons, List.not_mem_nil, or_false] at h
  rcases h with rfl | rfl | rfl | rfl | rfl | rfl | rfl | rfl <;> decide
/-- numbers that a call may read in any world that keeps their block -/
def NumsAt (w : World) (g n : Nat) : Prop := g < w.heap.size ∧ ∀ k, k < n → ∃ z : Int, w.cell? ⟨g, k, none⟩ = some (.int .i64 z) ∧ -9223372036854775808 ≤ z ∧ z ≤ 9223372036854775807
theorem NumsAt.only {w w' : World} {g n : Nat} {S : Nat → Prop} (h : NumsAt w g n) (ho : Only S w w') (hs : ¬ S g) : NumsAt w' g n :=
  ⟨Nat.lt_of_lt_of_le h.1 ho.size, fun k hk => by
    obtain ⟨z, hz, hz2⟩ := h.2 k hk
    exact ⟨z, (World.cell?_of_block (ho.block g h.1 hs)).trans hz, hz2⟩⟩
set_option maxRecDepth 100000 in
set_option maxHeartbeats 20000000 in
theorem top_any (w : World) (B bt g n cap : Nat) (h : TapeIs w B bt) (hg : g ≠ bt) (hn0 : 1 ≤ n) (hn1 : n ≤ 1048576) (hh : NumsAt w g n) :
    Calls Try.prog 21 #[.pointer (some ⟨bt, 0, none⟩), .slice (some ⟨g, 0, none⟩) n cap] w fun e w' => OpPost e ∧ TapeIs w' B bt ∧ Only (· = bt) w w' := by
  have hlt := h.lt
  have HO0 := Lib.hid (((Only.refl (fun k => k = bt) w).alloc (.cells #[.int .i64 0, .int .i64 0, .string ⟨#[]⟩, .int .u64 0, .int .u64 0] 39)).alloc (.cells kinds20 3))
  have ht := h.only (S := fun _ => False) (((Only.refl _ w).alloc (.cells #[.int .i64 0, .int .i64 0, .string ⟨#[]⟩, .int .u64 0, .int .u64 0] 39)).alloc (.cells kinds20 3)) (fun hh => hh) (fun _ _ hh => hh)
  have HN := Lib.hid (tnext_any _ B bt 20 ht (by omega) (by omega))
  have HH := Lib.hid hh
  have hn2 : (1 : Int) ≤ (n : Int) := by omega
  have hn3 : (n : Int) ≤ 1048576 := by omega
  clear ht h hh
  go_enter Try.func21, Try.ntmps21
  go_wp2_with fail
  refine HN.out.mono ?_
  rintro e w1 ⟨⟨r, r0, r1, rfl⟩, ht1, ho1⟩
  have hb0 := (heap_alloc (w.alloc (.cells #[.int .i64 0, .int .i64 0, .string ⟨#[]⟩, .int .u64 0, .int .u64 0] 39)) (.cells kinds20 3)).1
  rw [show (w.alloc (.cells #[.int .i64 0, .int .i64 0, .string ⟨#[]⟩, .int .u64 0, .int .u64 0] 39)).heap.size = w.heap.size + 1 by simp] at hb0
  have hb3 := (ho1.block (w.heap.size + 1) (by simp) (by omega)).trans hb0
  have hq0 := (heap_alloc w (.cells #[.int .i64 0, .int .i64 0, .string ⟨#[]⟩, .int .u64 0, .int .u64 0] 39)).1
  have hq1 := (ho1.block w.heap.size (by simp; omega) (by omega)).trans ((Below.heap_alloc _ _ _ (by simp)).trans hq0)
  have Q1 := Lib.hid hq1
  clear hb0 hq0 hq1
  obtain ⟨R, rfl⟩ := Int.eq_ofNat_of_zero_le r0
  obtain ⟨m, hm, m0, m1⟩ := kinds_at R (by omega)
  have hc : w1.cell? ⟨w.heap.size + 1, R, none⟩ = some (.int .i64 m) := (blk_cell hb3 R).trans hm
  have O1 := Lib.hid (Only.trans HO0.out ho1 (fun i hi => Or.inl hi))
  have T1 := Lib.hid ht1
  have N1 := Lib.hid (HH.out.only O1.out (fun e => hg e))
  have hbx := (O1.out.size)
  clear ht1 ho1 hb3 HN hm
  have hz1 : w.heap.size < w1.heap.size := (Array.getElem?_eq_some_iff.1 Q1.out).1
  go_wp2_with fail
  clear hc hbx r0 r1
  go_region_with (first | ((have hx := T4); clear hx; go_at_call 9; (refine (tnext_any _ B bt 4 ?ht (by omega) (by omega)).mono ?_); (case ht => exact T4.out); rintro e w5 ⟨⟨x4, x40, x41, rfl⟩, ht5, ho5⟩; (have hz5 := Nat.lt_of_lt_of_le hz4 ho5.size); (have Q5 := Lib.hid ((ho5.block w.heap.size hz4 (by omega)).trans Q4.out)); (have T5 := Lib.hid ht5); (have O5 := Lib.hid (Only.trans O4.out ho5 (fun i hi => Or.inl hi))); (have cz5 := (World.cell?_of_block (a := ⟨g, R2, none⟩) (ho5.block g (Nat.lt_of_lt_of_le HH.out.1 O4.out.size) hg)).trans cz4); (have y0 : w5.cell? ⟨w.heap.size, 0, none⟩ = some (.int .i64 0) := blk_cell Q5.out 0); (have y1 : w5.cell? ⟨w.heap.size, 1, none⟩ = some (.int .i64 0) := blk_cell Q5.out 1); (have y2 : w5.cell? ⟨w.heap.size, 2, none⟩ = some (.string ⟨#[]⟩) := blk_cell Q5.out 2); (have y3 : w5.cell? ⟨w.heap.size, 3, none⟩ = some (.int .u64 0) := blk_cell Q5.out 3); (have y4 : w5.cell? ⟨w.heap.size, 4, none⟩ = some (.int .u64 0) := blk_cell Q5.out 4); (have f0 : w5.frozen? ⟨w.heap.size, 0, none⟩ = false := blk_frozen Q5.out 0); (have f1 : w5.frozen? ⟨w.heap.size, 1, none⟩ = false := blk_frozen Q5.out 1); (have f2 : w5.frozen? ⟨w.heap.size, 2, none⟩ = false := blk_frozen Q5.out 2); (have f3 : w5.frozen? ⟨w.heap.size, 3, none⟩ = false := blk_frozen Q5.out 3); (have f4 : w5.frozen? ⟨w.heap.size, 4, none⟩ = false := blk_frozen Q5.out 4); clear ht5 ho5) | ((have hx := T3); clear hx; go_at_call 9; (refine (tnext_any _ B bt 4 ?ht (by omega) (by omega)).mono ?_); (case ht => exact T3.out); rintro e w4 ⟨⟨x3, x30, x31, rfl⟩, ht4, ho4⟩; (have hz4 := Nat.lt_of_lt_of_le hz3 ho4.size); (have Q4 := Lib.hid ((ho4.block w.heap.size hz3 (by omega)).trans Q3.out)); (have T4 := Lib.hid ht4); (have O4 := Lib.hid (Only.trans O3.out ho4 (fun i hi => Or.inl hi))); (have cz4 := (World.cell?_of_block (a := ⟨g, R2, none⟩) (ho4.block g (Nat.lt_of_lt_of_le HH.out.1 O3.out.size) hg)).trans cz3); clear ht4 ho4) | ((have hx := T2); clear hx; go_at_call 11; (refine (tkey_any _ B bt ?ht).mono ?_); (case ht => exact T2.out); rintro e w3 ⟨⟨kk, hkk, rfl⟩, ht3, ho3⟩; (have hz3 := Nat.lt_of_lt_of_le hz2 ho3.size); (have Q3 := Lib.hid ((ho3.block w.heap.size hz2 (by omega)).trans Q2.out)); (have T3 := Lib.hid ht3); (have O3 := Lib.hid (Only.trans O2.out ho3 (fun i hi => Or.inl hi))); (have cz3 := (World.cell?_of_block (a := ⟨g, R2, none⟩) (ho3.block g (Nat.lt_of_lt_of_le HH.out.1 O2.out.size) hg)).trans cz2); clear ht3 ho3) | (go_at_call 9; (refine (tnext_any _ B bt _ ?ht (by omega) (by omega)).mono ?_); (case ht => exact T1.out); rintro e w2 ⟨⟨x1, x10, x11, rfl⟩, ht2, ho2⟩; (have hz2 := Nat.lt_of_lt_of_le hz1 ho2.size); (have Q2 := Lib.hid ((ho2.block w.heap.size hz1 (by omega)).trans Q1.out)); (have T2 := Lib.hid ht2); (have O2 := Lib.hid (Only.trans O1.out.drew ho2 (fun i hi => Or.inl hi))); (obtain ⟨R2, rfl⟩ := Int.eq_ofNat_of_zero_le x10); (obtain ⟨zz, cz1, zz0, zz1⟩ := N1.out.2 R2 (by omega)); (have cz2 := (World.cell?_of_block (a := ⟨g, R2, none⟩) (ho2.block g (Nat.lt_of_lt_of_le HH.out.1 O1.out.size) hg)).trans cz1); clear ht2 ho2))
  all_goals
    have e3 : IntKind.u64.wrap x3 = x3 := by rw [IntKind.wrap_u64]; omega
    have e4 : IntKind.u64.wrap x4 = x4 := by rw [IntKind.wrap_u64]; omega
    have E3 := Lib.hid e3
    have E4 := Lib.hid e4
    clear e3 e4
    go_wp2_with fail
    have e3 := E3.out
    have e4 := E4.out
    refine bodyPost_ret (v := OpD.val ⟨m, zz, kk, x3, x4⟩) (by simp [results, Try.results21, go_sem, y0, y1, y2, y3, y4, OpD.val, e3, e4]) rfl ⟨⟨_, ⟨⟨by simp only; omega, by simp only; omega, zz0, zz1, x30, by simp only; omega, x40, by simp only; omega⟩, by (have hk3 := key8_size hkk); simp only; omega⟩, rfl⟩, ?_, ?_⟩
    · have hBz : B ≤ w.heap.size := by
        obtain ⟨A, n, c, i, hb, hB, _⟩ := T5.out
        omega
      have hne : bt ≠ w.heap.size := by omega
      exact ((((T5.out.setCell hBz hne _).setCell hBz hne _).setCell hBz hne _).setCell hBz hne _).setCell hBz hne _
    · exact ((((O5.out.setAt (Nat.le_refl _) _).setAt (Nat.le_refl _) _).setAt (Nat.le_refl _) _).setAt (Nat.le_refl _) _).setAt (Nat.le_refl _) _
end Go.Proofs.Ytagfghihnkkfiaa
