/- The walks of package ctriemake: the tape of choices. -/
import Derived.Test.YtagfghihnkkfiaaFam
import Derived.WalkLawsBesides
import Derived.WalkSpells
import Derived.Outline
import Derived.Lib.Hide
import Derived.Deep.QuietTactic
import Derived.BigQuiet
namespace Go.Proofs.Ytagfghihnkkfiaa
set_option linter.unusedVariables false
set_option linter.unusedSimpArgs false
open Go.RowKit Go.MapKept
/-- block bt is a tape over numbers that lie below block B -/
def TapeIs (w : World) (B bt : Nat) : Prop :=
  ∃ (A : Option Addr) (n c i : Nat), w.heap[bt]? = some (.cells #[.slice A n c, .int .i64 i] 80 (0, 0)) ∧ B ≤ bt ∧ i ≤ n ∧ n ≤ 9223372036854775807 ∧
    (0 < n → ∃ b off, A = some ⟨b, off, none⟩ ∧ b < B ∧ ∀ k, k < n → ∃ z : Int, w.cell? ⟨b, off + k, none⟩ = some (.int .i64 z) ∧ -9223372036854775808 ≤ z ∧ z ≤ 9223372036854775807)
theorem TapeIs.lt {w : World} {B bt : Nat} (h : TapeIs w B bt) : bt < w.heap.size := by
  obtain ⟨A, n, c, i, hb, _⟩ := h
  exact (Array.getElem?_eq_some_iff.1 hb).1
theorem TapeIs.keep {w w' : World} {B bt : Nat} (h : TapeIs w B bt) (h1 : w'.heap[bt]? = w.heap[bt]?) (h2 : ∀ k, k < B → w'.heap[k]? = w.heap[k]?) : TapeIs w' B bt := by
  obtain ⟨A, n, c, i, hb, hB, hi, hn, hr⟩ := h
  refine ⟨A, n, c, i, h1.trans hb, hB, hi, hn, fun h0 => ?_⟩
  obtain ⟨b, off, rfl, hlt, hc⟩ := hr h0
  exact ⟨b, off, rfl, hlt, fun k hk => by obtain ⟨z, hz, hz2⟩ := hc k hk; exact ⟨z, (World.cell?_of_block (h2 b hlt)).trans hz, hz2⟩⟩
theorem TapeIs.only {w w' : World} {B bt : Nat} {S : Nat → Prop} (h : TapeIs w B bt) (ho : Only S w w') (hs : ¬ S bt) (hB : ∀ k, k < B → ¬ S k) : TapeIs w' B bt := by
  have hl := h.lt
  have hb : B ≤ bt := by obtain ⟨_, _, _, _, _, hB, _⟩ := h; exact hB
  exact h.keep (ho.block bt hl hs) fun k hk => ho.block k (by omega) (hB k hk)

theorem wrap_pos (v : Int) : 0 ≤ IntKind.u64.wrap v := by rw [IntKind.wrap_u64]; omega
def modI (v m : Int) : Int := IntKind.u64.wrap v % m
theorem modI_bd (v m : Int) (h1 : 1 ≤ m) : 0 ≤ modI v m ∧ modI v m < m :=
  ⟨Int.emod_nonneg _ (by omega), Int.emod_lt_of_pos _ (by omega)⟩
theorem mod_any (v m : Int) (w : World) (h1 : 1 ≤ m) (h2 : m ≤ 1152921504606846976) :
    Calls Try.prog 23 #[.int .i64 v, .int .i64 m] w fun e w' => e = .returned (.int .i64 (modI v m)) ∧ w = w' := by
  have hp := wrap_pos v
  have hb := modI_bd v m h1
  have hz : (m == 0) = false := by simp; omega
  have X := Lib.hid (show modI v m = IntKind.u64.wrap v % m from rfl)
  generalize modI v m = y at *
  generalize hx : IntKind.u64.wrap v = x at *
  have hl : x % m < m := by rw [← X.out]; exact hb.2
  have hg : 0 ≤ x % m := by rw [← X.out]; exact hb.1
  go_enter Try.func23, Try.ntmps23
  go_wp2
  go_ret
  exact ⟨ret_int X.out.symm, rfl⟩
theorem mod_same (v m : Int) (w : World) (h1 : 1 ≤ m) (h2 : m ≤ 1152921504606846976) :
    Calls Try.prog 23 #[.int .i64 v, .int .i64 m] w fun e w' => e = .returned (.int .i64 (modI v m)) ∧ w' = w :=
  (mod_any v m w h1 h2).mono fun _ _ ⟨he, hw⟩ => ⟨he, hw.symm⟩
theorem tnew_any (w : World) (A : Option Addr) (n c : Nat) : Calls Try.prog 8 #[.slice A n c] w fun e w' => e = .returned (.pointer (some ⟨w.heap.size, 0, none⟩)) ∧ w' = w.alloc (.cells #[.slice A n c, .int .i64 0] 80) := by
  go_enter Try.func8, Try.ntmps8
  go_wp2
  go_ret
  exact ⟨rfl, rfl⟩
theorem TapeIs.made {w : World} {B : Nat} {A : Option Addr} {n c : Nat} (hB : B ≤ w.heap.size) (hn : n ≤ 9223372036854775807)
    (hr : 0 < n → ∃ b off, A = some ⟨b, off, none⟩ ∧ b < B ∧ ∀ k, k < n → ∃ z : Int, w.cell? ⟨b, off + k, none⟩ = some (.int .i64 z) ∧ -9223372036854775808 ≤ z ∧ z ≤ 9223372036854775807) :
    TapeIs (w.alloc (.cells #[.slice A n c, .int .i64 0] 80)) B w.heap.size := by
  refine ⟨A, n, c, 0, (heap_alloc w _).1, hB, Nat.zero_le _, hn, fun h0 => ?_⟩
  obtain ⟨b, off, rfl, hb, hc⟩ := hr h0
  exact ⟨b, off, rfl, hb, fun k hk => by obtain ⟨z, hz, hz2⟩ := hc k hk; exact ⟨z, (World.cell?_of_block ((heap_alloc w _).2 b (by omega))).trans hz, hz2⟩⟩
theorem TapeIs.step {w : World} {B bt : Nat} {b off n c i : Nat} (hb : w.heap[bt]? = some (.cells #[.slice (some ⟨b, off, none⟩) n c, .int .i64 i] 80 (0, 0))) (hB : B ≤ bt) (hi : i < n) (hn : n ≤ 9223372036854775807) (hbB : b < B)
    (hc : ∀ k, k < n → ∃ z : Int, w.cell? ⟨b, off + k, none⟩ = some (.int .i64 z) ∧ -9223372036854775808 ≤ z ∧ z ≤ 9223372036854775807) (p q : Nat) :
    TapeIs (((w.drewN p).setCell ⟨bt, 1, none⟩ (.int .i64 ((i : Int) + 1))).drewN q) B bt := by
  refine ⟨some ⟨b, off, none⟩, n, c, i + 1, ?_, hB, by omega, hn, fun _ => ⟨b, off, rfl, hbB, fun k hk => ?_⟩⟩
  · have hb' : (w.drewN p).heap[bt]? = _ := hb
    show ((w.drewN p).setCell ⟨bt, 1, none⟩ (.int .i64 ((i : Int) + 1))).heap[bt]? = _
    simp [World.setCell, Array.getElem?_modify, hb]
  · obtain ⟨z, hz, hz2⟩ := hc k hk
    refine ⟨z, ?_, hz2⟩
    have : ((w.drewN p).setCell ⟨bt, 1, none⟩ (.int .i64 ((i : Int) + 1))).heap[b]? = (w.drewN p).heap[b]? := Below.heap_setCell _ _ _ b (by show b ≠ bt; omega)
    exact (World.cell?_of_block this).trans hz
/-- a number of the range, in a returned value -/
def InRange (m : Int) (e : Ending) : Prop := ∃ r : Int, 0 ≤ r ∧ r < m ∧ e = .returned (.int .i64 r)
theorem tnext_any (w : World) (B bt : Nat) (m : Int) (h : TapeIs w B bt) (h1 : 1 ≤ m) (h2 : m ≤ 1152921504606846976) :
    Calls Try.prog 9 #[.pointer (some ⟨bt, 0, none⟩), .int .i64 m] w fun e w' => InRange m e ∧ TapeIs w' B bt ∧ Only (· = bt) w w' := by
  have hlt := h.lt
  have H := Lib.hid h
  obtain ⟨A, n, c, i, hb, hB, hi, hn, hr⟩ := h
  have c0 : w.cell? ⟨bt, 0, none⟩ = some (.slice A n c) := by simp [World.cell?, hb]
  have c1 : w.cell? ⟨bt, 1, none⟩ = some (.int .i64 i) := by simp [World.cell?, hb]
  have f1 : w.frozen? ⟨bt, 1, none⟩ = false := by simp [World.frozen?, hb]
  by_cases hin : i < n
  · obtain ⟨b, off, rfl, hbB, hc⟩ := hr (by omega)
    obtain ⟨z, hz, z0, z1⟩ := hc i hin
    have HB := Lib.hid hb
    have HR := Lib.hid hc
    have hne : b ≠ bt := by omega
    have e1 : (i : Int) + 1 - 1 = i := by omega
    have e2 : IntKind.i64.wrap ((i : Int) + 1 - 1) = i := by rw [e1]; exact IntWalk.i64_in _ (by omega)
    have hne2 : bt ≠ b := by omega
    have hi0 : (0 : Int) ≤ i := by omega
    have hi1 : (i : Int) < n := by omega
    clear hb hc hr
    go_enter Try.func9, Try.ntmps9
    go_wp2_with fail
    go_quiet (fail)
    go_wp2_with fail
    go_quiet ((go_at_call 23; exact Calls.quiet_of_same (mod_same _ _ _ h1 h2)))
    go_wp2_with fail
    go_ret
    have hm := modI_bd z m h1
    exact ⟨⟨_, hm.1, hm.2, rfl⟩, TapeIs.step HB.out hB hin hn hbB HR.out _ _, Only.drewN (Only.setOwn (S := (· = bt)) ((Only.refl _ _).drewN _) rfl _) _⟩
  · clear hr hb
    go_enter Try.func9, Try.ntmps9
    go_wp2_with fail
    go_quiet (fail)
    go_wp2_with fail
    go_ret
    exact ⟨⟨0, by omega, by omega, rfl⟩, H.out, (Only.refl _ _).drewN _⟩
/-- the eight keys -/
def keys8 : List ByteArray := [⟨#[97]⟩, ⟨#[98]⟩, ⟨#[99]⟩, ⟨#[100]⟩, ⟨#[97, 98]⟩, ⟨#[]⟩, ⟨#[98, 48]⟩, ⟨#[107, 101, 121]⟩]
def SomeKey (e : Ending) : Prop := ∃ k ∈ keys8, e = .returned (.string k)
theorem tkey_any (w : World) (B bt : Nat) (h : TapeIs w B bt) :
    Calls Try.prog 11 #[.pointer (some ⟨bt, 0, none⟩)] w fun e w' => SomeKey e ∧ TapeIs w' B bt ∧ Only (· = bt) w w' := by
  have hlt := h.lt
  have ht := h.only (S := fun _ => False) ((Only.refl _ w).alloc (.cells #[.string ⟨#[97]⟩, .string ⟨#[98]⟩, .string ⟨#[99]⟩, .string ⟨#[100]⟩, .string ⟨#[97, 98]⟩, .string ⟨#[]⟩, .string ⟨#[98, 48]⟩, .string ⟨#[107, 101, 121]⟩] 9)) (fun hh => hh) (fun _ _ hh => hh)
  have hn := tnext_any _ B bt 8 ht (by omega) (by omega)
  have HN := Lib.hid hn
  clear hn ht h
  go_enter Try.func11, Try.ntmps11
  go_wp2_with fail
  refine HN.out.mono ?_
  rintro e w1 ⟨⟨r, r0, r1, rfl⟩, ht1, ho1⟩
  have hb := ho1.block w.heap.size (by simp) (by omega)
  have hb2 := (heap_alloc w (.cells #[.string ⟨#[97]⟩, .string ⟨#[98]⟩, .string ⟨#[99]⟩, .string ⟨#[100]⟩, .string ⟨#[97, 98]⟩, .string ⟨#[]⟩, .string ⟨#[98, 48]⟩, .string ⟨#[107, 101, 121]⟩] 9)).1
  have hb3 := hb.trans hb2
  clear hb hb2 HN
  have hc : ∀ j : Nat, w1.cell? ⟨w.heap.size, j, none⟩ = (#[Value.string ⟨#[97]⟩, .string ⟨#[98]⟩, .string ⟨#[99]⟩, .string ⟨#[100]⟩, .string ⟨#[97, 98]⟩, .string ⟨#[]⟩, .string ⟨#[98, 48]⟩, .string ⟨#[107, 101, 121]⟩] : Array Value)[j]? := by
    intro j; simp [World.cell?, hb3]
  have O1 := Lib.hid (Only.trans ((Only.refl (· = bt) w).alloc _) ho1 (fun i hi => Or.inl hi))
  have T1 := Lib.hid ht1
  clear ht1 ho1 hb3
  obtain ⟨R, rfl⟩ := Int.eq_ofNat_of_zero_le r0
  have hR : R < 8 := by omega
  clear r0 r1
  have hcase : R = 0 ∨ R = 1 ∨ R = 2 ∨ R = 3 ∨ R = 4 ∨ R = 5 ∨ R = 6 ∨ R = 7 := by omega
  have h0 := hc 0
  have h1 := hc 1
  have h2 := hc 2
  have h3 := hc 3
  have h4 := hc 4
  have h5 := hc 5
  have h6 := hc 6
  have h7 := hc 7
  simp at h0 h1 h2 h3 h4 h5 h6 h7
  clear hc hR
  rcases hcase with rfl | rfl | rfl | rfl | rfl | rfl | rfl | rfl
  all_goals
    go_wp2_with fail
    go_ret
    exact ⟨⟨_, by simp [keys8], rfl⟩, T1.out, O1.out⟩
end Go.Proofs.Ytagfghihnkkfiaa
