/- The walk of ModelKeys. -/
import Derived.Test.YtagfghihnkkfiaaKeysP
import Derived.Test.YtagfghihnkkfiaaAwake
import Derived.Deep.LoopGhost
namespace Go.Proofs.Ytagfghihnkkfiaa
set_option linter.unusedVariables false
set_option linter.unusedSimpArgs false
open Go.RowKit Go.MapKept
set_option maxRecDepth 100000 in
set_option maxHeartbeats 1000000 in
theorem keys_early (w : World) (m : Int) (A : Option Addr) (n c : Nat) (key other : ByteArray) (v u : Int) (hk0 : key.size ≤ maxLen) (ho0 : other.size ≤ maxLen) (h : 64 < key.size ∨ (key.size ≤ 64 ∧ 64 < other.size) ∨ (key.size ≤ 64 ∧ other.size ≤ 64 ∧ key = other)) :
    Calls Try.prog 4 #[.int .u64 m, .slice A n c, .string key, .string other, .int .u64 v, .int .u64 u] w fun e w' => e = .returned (.bool true) ∧ Below w.heap.size w w' := by
  unfold maxLen at hk0 ho0
  rcases h with h | ⟨h, h'⟩ | ⟨h, h', rfl⟩
  all_goals
    go_enter Try.func4, Try.ntmps4
    go_wp2_with fail
    refine (new_A _ _).mono ?_
    rintro e w1 ⟨rfl, hb1, hz1, hf1⟩
    have HB := Lib.hid hb1
    clear hf1 hb1
    go_wp2_with fail
    refine (awake_any _).mono ?_
    rintro e w2 ⟨rfl, hb2⟩
    have HB2 := Lib.hid (HB.out.trans (hb2.mono HB.out.size))
    clear hb2 HB
    go_wp2_with fail
    go_ret
    exact ⟨rfl, HB2.out⟩
theorem wrap_succ_ne (v : Int) (v0 : 0 ≤ v) (v1 : v ≤ 18446744073709551615) : IntKind.u64.wrap (v + 1) ≠ v := by
  rw [IntKind.wrap_u64]; omega
theorem ResAt.setAt {w : World} {b b' j : Nat} {r : ResD} {u : Value} (h : ResAt w b r) (hne : b ≠ b') : ResAt (w.setCell ⟨b', j, none⟩ u) b r := (Below.heap_setCell _ _ _ b hne).trans h
theorem ResAt.count {w : World} {b : Nat} {f : Bool} {x : Int} (h : ResAt w b { found := f, value := x }) : ResAt (w.setCell ⟨b, 4, none⟩ (.int .i64 1)) b { found := f, value := x, count := 1 } := by
  have := blk_set h 4 (.int .i64 1)
  unfold ResAt
  rw [this]
  rfl
def KeyRel (w : World) (m : Int) (bt : Nat) (i : Value) (wr : World) : Prop :=
  ∃ (k : Nat) (L : List (ByteArray × Int)), k ≤ 5 ∧ i = .int .i64 k ∧ KeySt w wr m L (k + 1) [] ∧ TapeIs wr w.heap.size bt ∧ w.heap.size + 4 ≤ bt
theorem keys8_small {k : ByteArray} (h : k ∈ keys8) : k.size ≤ 64 := by
  have : keys8.all (fun k => decide (k.size ≤ 64)) = true := by decide
  simpa using List.all_eq_true.1 this k h
set_option maxRecDepth 100000 in
set_option maxHeartbeats 4000000 in
theorem keys_main (w : World) (m : Int) (A : Option Addr) (n c : Nat) (key other : ByteArray) (v u : Int) (m0 : 0 ≤ m) (m1 : m ≤ 18446744073709551615) (hk : key.size ≤ 64) (ho : other.size ≤ 64) (hne : key ≠ other) (v0 : 0 ≤ v) (v1 : v ≤ 18446744073709551615) (hn : n ≤ 9223372036854775807)
    (hr : 0 < n → ∃ b off, A = some ⟨b, off, none⟩ ∧ b < w.heap.size ∧ ∀ k, k < n → ∃ z : Int, w.cell? ⟨b, off + k, none⟩ = some (.int .i64 z) ∧ -9223372036854775808 ≤ z ∧ z ≤ 9223372036854775807) :
    Calls Try.prog 4 #[.int .u64 m, .slice A n c, .string key, .string other, .int .u64 v, .int .u64 u] w fun e w' => e = .returned (.bool true) ∧ Below w.heap.size w w' := by
  have hkk : decide ((64 : Int) < (key.size : Int)) = false := by simp; omega
  have hoo : decide ((64 : Int) < (other.size : Int)) = false := by simp; omega
  have hq : (key.toList == other.toList) = false := by
    rw [beq_eq_false_iff_ne]
    exact fun h => hne (bytes_ext _ _ h)
  have HR := Lib.hid hr
  have HN := Lib.hid hne
  clear hr hne
  go_enter Try.func4, Try.ntmps4
  go_wp2_with fail
  refine (new_A _ _).mono ?_
  rintro e w1 ⟨rfl, hb1, hz1, hf1⟩
  have HB := Lib.hid hb1
  have HF := Lib.hid hf1
  clear hf1 hb1
  go_wp2_with fail
  refine (tnew_any _ A n c).mono ?_
  rintro e w2 ⟨rfl, rfl⟩
  have st0 : KeySt w (w1.alloc (.cells #[.slice A n c, .int .i64 0] 80)) m [] 1 [] :=
    ⟨HF.out.alloc _, famO_ok m m0 m1, by simp, HB.out.alloc HB.out.size _, by simp; omega⟩
  have tp0 : TapeIs (w1.alloc (.cells #[.slice A n c, .int .i64 0] 80)) w.heap.size w1.heap.size := by
    refine TapeIs.made HB.out.size hn (fun h0 => ?_)
    obtain ⟨b, off, ha, hb, hc⟩ := HR.out h0
    exact ⟨b, off, ha, hb, fun k hk => by obtain ⟨z, hz, hz2⟩ := hc k hk; exact ⟨z, (HB.out.cell (p := ⟨b, off + k, none⟩) hb).trans hz, hz2⟩⟩
  have ST := Lib.hid st0
  have TP := Lib.hid tp0
  clear st0 tp0 HF HB HR
  go_wp2_with fail
  go_loopw [15] (fun i wr => KeyRel w m w1.heap.size i wr) (fun i _ => 6 - (intOf i).toNat)
  case atStart => exact ⟨0, [], by omega, rfl, ST.out, TP.out, by omega⟩
  case round =>
    obtain ⟨k, L, hk5, rfl, hst, htp, hbt⟩ := hrel
    clear hkk hoo hq
    have HS := Lib.hid hst
    have HT := Lib.hid htp
    clear hst htp ST TP
    go_wp2_with fail
    refine (tnext_any _ _ _ 6 HT.out (by omega) (by omega)).mono ?_
    rintro e w2 ⟨⟨r, r0, r1, rfl⟩, ht2, ho2⟩
    have HS2 := Lib.hid (HS.out.only ho2 hbt (by simp))
    have HT2 := Lib.hid ht2
    clear ht2 ho2 HS HT
    by_cases hkr : (k : Int) < r
    · go_wp2_with fail
      refine (tkey_any _ _ _ HT2.out).mono ?_
      rintro e w3 ⟨⟨ky, hky, rfl⟩, ht3, ho3⟩
      have HS3 := Lib.hid (HS2.out.only ho3 hbt (by simp))
      have HT3 := Lib.hid ht3
      have KS := Lib.hid (keys8_small hky)
      clear ht3 ho3 HS2 HT2 hky
      go_wp2_with fail
      refine (key_step0 _ _ m L (k + 1) [] k ⟨1, 0, ky, 9, 0⟩ _ _ HS3.out (by omega) KS.out (by simp) (one_insert m L k (by omega) (by omega) ky 9 0 KS.out)).mono ?_
      rintro e w4 ⟨rfl, hs4, ho4⟩
      have HS4 := Lib.hid hs4
      have HT4 := Lib.hid (HT3.out.only ho4 (by unfold blk4; omega) (fun k hk => by unfold blk4; omega))
      clear hs4 ho4 HS3 HT3
      simp only [ResD.cells]
      go_wp2_with fail
      go_roundw
      case rel => exact ⟨k + 1, _, by omega, by go_num, HS4.out, HT4.out, hbt⟩
      case measure => simp [intOf]; omega
    · have hkr' : decide ((k : Int) < r) = false := by simpa using hkr
      clear HT2 hkr
      go_wp2_with fail
      refine (key_step0 _ _ m L (k + 1) [] 6 ⟨1, 0, other, u, 0⟩ _ _ HS2.out (by omega) ho (by simp) (one_insert m L 6 (by omega) (by omega) other u 0 ho)).mono ?_
      rintro e w6 ⟨rfl, hs6, _⟩
      obtain ⟨L1, o1, hs6'⟩ : ∃ L1, alook L1 other = some u ∧ KeySt w w6 m L1 7 [] := ⟨_, alook_aset_self _ _ _, hs6.fam, hs6.ok.more (by omega), hs6.res, hs6.below, hs6.size⟩
      have HS6 := Lib.hid hs6'
      have O1 := Lib.hid o1
      obtain ⟨f0, x0, hlk⟩ : ∃ f0 x0, applyA (fam1 m L1) 0 7 ⟨7, 0, key, 0, 0⟩ = (fam1 m L1, { found := f0, value := x0 }) ∧ applyA (fam1 m L1) 0 8 ⟨1, 0, key, v, 0⟩ = (fam1 m (aset L1 key v), { found := f0, value := x0, count := 1 }) :=
        ⟨_, _, one_look m L1 7 (by omega) (by omega) key 0 0 hk, one_insert m L1 8 (by omega) (by omega) key v 0 hk⟩
      have LK := Lib.hid hlk
      clear hs6 hs6' o1 hlk HS2
      simp only [ResD.cells]
      go_wp2_with fail
      refine (key_step _ _ m L1 7 [] 7 ⟨7, 0, key, 0, 0⟩ L1 { found := f0, value := x0 } HS6.out (by omega) hk (by simp) LK.out.1).mono ?_
      rintro e w7 ⟨rfl, hs7, hz7⟩
      have HS7 := Lib.hid hs7
      clear hs7 HS6 hz7
      simp only [ResD.cells]
      go_wp2_with fail
      refine (key_step _ _ m L1 8 _ 8 ⟨1, 0, key, v, 0⟩ _ { found := f0, value := x0, count := 1 } HS7.out (by omega) hk (by simp) LK.out.2).mono ?_
      rintro e w8 ⟨rfl, hs8, hz8⟩
      obtain ⟨L2, k2, o2, hs8'⟩ : ∃ L2, alook L2 key = some v ∧ alook L2 other = some u ∧ KeySt w (w8.alloc (.cells (ResD.cells { found := f0, value := x0, count := 1 }) 35)) m L2 9 [(w8.heap.size, { found := f0, value := x0, count := 1 }), (w7.heap.size, { found := f0, value := x0 })] :=
        ⟨_, alook_aset_self _ _ _, (alook_aset_ne _ _ _ _ (Ne.symm HN.out)).trans O1.out, hs8⟩
      have hy8 : w7.heap.size < w8.heap.size := by simp at hz8; omega
      have HS8 := Lib.hid hs8'
      have K2 := Lib.hid k2
      have O2 := Lib.hid o2
      clear hs8 hs8' k2 o2 HS7 LK O1 hz8
      simp only [ResD.cells]
      go_wp2_with fail
      refine (key_step _ _ m L2 9 _ 9 ⟨7, 0, key, 0, 0⟩ _ { found := true, value := v } HS8.out (by omega) hk (by simp) (one_look_some m L2 9 (by omega) (by omega) key 0 0 v hk K2.out)).mono ?_
      rintro e w9 ⟨rfl, hs9, hz9⟩
      have hy9 : w8.heap.size < w9.heap.size := by simp at hz9; omega
      have HS9 := Lib.hid hs9
      clear hs9 HS8 hz9
      simp only [ResD.cells]
      go_wp2_with fail
      refine (key_step _ _ m L2 10 _ 10 ⟨4, 0, key, IntKind.u64.wrap (v + 1), v⟩ _ { found := true, value := v, count := 1 } HS9.out (by omega) hk (by simp) (one_swap m L2 10 (by omega) (by omega) key (IntKind.u64.wrap (v + 1)) v hk K2.out)).mono ?_
      rintro e w10 ⟨rfl, hs10, hz10⟩
      have hy10 : w9.heap.size < w10.heap.size := by simp at hz10; omega
      obtain ⟨L3, k3, o3, hs10'⟩ : ∃ L3, alook L3 key = some (IntKind.u64.wrap (v + 1)) ∧ alook L3 other = some u ∧ KeySt w (w10.alloc (.cells (ResD.cells { found := true, value := v, count := 1 }) 35)) m L3 11 [(w10.heap.size, { found := true, value := v, count := 1 }), (w9.heap.size, { found := true, value := v }), (w8.heap.size, { found := f0, value := x0, count := 1 }), (w7.heap.size, { found := f0, value := x0 })] :=
        ⟨_, alook_aset_self _ _ _, (alook_aset_ne _ _ _ _ (Ne.symm HN.out)).trans O2.out, hs10⟩
      have HS10 := Lib.hid hs10'
      have K3 := Lib.hid k3
      have O3 := Lib.hid o3
      clear hs10 hs10' k3 o3 HS9 K2 O2 hz10
      simp only [ResD.cells]
      go_wp2_with fail
      refine (key_step _ _ m L3 11 _ 11 ⟨2, 0, key, 5, 0⟩ _ { found := true, value := IntKind.u64.wrap (v + 1) } HS10.out (by omega) hk (by simp) (one_absent m L3 11 (by omega) (by omega) key 5 0 _ hk K3.out)).mono ?_
      rintro e w11 ⟨rfl, hs11, hz11⟩
      have hy11 : w10.heap.size < w11.heap.size := by simp at hz11; omega
      have HS11 := Lib.hid hs11
      clear hs11 HS10 hz11
      simp only [ResD.cells]
      go_wp2_with fail
      refine (key_step _ _ m L3 12 _ 12 ⟨6, 0, key, 0, v⟩ _ { found := true, value := IntKind.u64.wrap (v + 1) } HS11.out (by omega) hk (by simp) (one_removeif m L3 12 (by omega) (by omega) key 0 v _ hk K3.out (wrap_succ_ne v v0 v1))).mono ?_
      rintro e w12 ⟨rfl, hs12, hz12⟩
      have hy12 : w11.heap.size < w12.heap.size := by simp at hz12; omega
      have HS12 := Lib.hid hs12
      clear hs12 HS11 hz12
      simp only [ResD.cells]
      go_wp2_with fail
      refine (key_step _ _ m L3 13 _ 13 ⟨5, 0, key, 0, 0⟩ _ { found := true, value := IntKind.u64.wrap (v + 1), count := 1 } HS12.out (by omega) hk (by simp) (one_remove m L3 13 (by omega) (by omega) key 0 0 _ hk K3.out)).mono ?_
      rintro e w13 ⟨rfl, hs13, hz13⟩
      have hy13 : w12.heap.size < w13.heap.size := by simp at hz13; omega
      have K4 := Lib.hid (alook_adel_self L3 key HS12.out.nodup)
      have O4 := Lib.hid ((alook_adel_ne L3 key other (Ne.symm HN.out)).trans O3.out)
      have HS13 := Lib.hid hs13
      clear hs13 HS12 hz13 K3 O3
      simp only [ResD.cells]
      go_wp2_with fail
      refine (key_step _ _ m _ 14 _ 14 ⟨3, 0, key, 5, 0⟩ _ {} HS13.out (by omega) hk (by simp) (one_replace m _ 14 (by omega) (by omega) key 5 0 hk K4.out)).mono ?_
      rintro e w14 ⟨rfl, hs14, hz14⟩
      have hy14 : w13.heap.size < w14.heap.size := by simp at hz14; omega
      have HS14 := Lib.hid hs14
      clear hs14 HS13 hz14 K4
      simp only [ResD.cells]
      go_wp2_with fail
      refine (key_step _ _ m _ 15 _ 15 ⟨7, 0, other, 0, 0⟩ _ { found := true, value := u } HS14.out (by omega) ho (by simp) (one_look_some m _ 15 (by omega) (by omega) other 0 0 u ho O4.out)).mono ?_
      rintro e w15 ⟨rfl, hs15, hz15⟩
      have hy15 : w14.heap.size < w15.heap.size := by simp at hz15; omega
      have R7 : ResAt (w15.alloc (.cells (ResD.cells { found := true, value := u }) 35)) w7.heap.size { found := f0, value := x0 } := (hs15.res (w7.heap.size, { found := f0, value := x0 }) (by simp)).2
      have p7 := R7.cell
      have g7 : ∀ j : Nat, (w15.alloc (.cells (ResD.cells { found := true, value := u }) 35)).frozen? ⟨w7.heap.size, j, none⟩ = false := fun j => by
        have h := R7
        unfold ResAt at h
        simp [World.frozen?, h]
      simp only [ResD.cells] at p7 g7
      have HS15 := Lib.hid hs15
      have HR7 := Lib.hid R7
      clear hs15 HS14 hz15 O4 R7
      simp only [ResD.cells]
      go_wp2_with fail
      refine (awake_any _).mono ?_
      rintro e w16 ⟨rfl, hb16⟩
      have q7 := ((HR7.out.count).below hb16).cell
      have q8 := (((HS15.out.res (w8.heap.size, { found := f0, value := x0, count := 1 }) (by simp)).2.setAt (b' := w7.heap.size) (j := 4) (u := .int .i64 1) (by simp only; omega)).below hb16).cell
      have q9 := (((HS15.out.res (w9.heap.size, { found := true, value := v }) (by simp)).2.setAt (b' := w7.heap.size) (j := 4) (u := .int .i64 1) (by simp only; omega)).below hb16).cell
      have q10 := (((HS15.out.res (w10.heap.size, { found := true, value := v, count := 1 }) (by simp)).2.setAt (b' := w7.heap.size) (j := 4) (u := .int .i64 1) (by simp only; omega)).below hb16).cell
      have q11 := (((HS15.out.res (w11.heap.size, { found := true, value := IntKind.u64.wrap (v + 1) }) (by simp)).2.setAt (b' := w7.heap.size) (j := 4) (u := .int .i64 1) (by simp only; omega)).below hb16).cell
      have q12 := (((HS15.out.res (w12.heap.size, { found := true, value := IntKind.u64.wrap (v + 1) }) (by simp)).2.setAt (b' := w7.heap.size) (j := 4) (u := .int .i64 1) (by simp only; omega)).below hb16).cell
      have q13 := (((HS15.out.res (w13.heap.size, { found := true, value := IntKind.u64.wrap (v + 1), count := 1 }) (by simp)).2.setAt (b' := w7.heap.size) (j := 4) (u := .int .i64 1) (by simp only; omega)).below hb16).cell
      have q14 := (((HS15.out.res (w14.heap.size, {}) (by simp)).2.setAt (b' := w7.heap.size) (j := 4) (u := .int .i64 1) (by simp only; omega)).below hb16).cell
      have q15 := (((HS15.out.res (w15.heap.size, { found := true, value := u }) (by simp)).2.setAt (b' := w7.heap.size) (j := 4) (u := .int .i64 1) (by simp only; omega)).below hb16).cell
      have BB : Below w.heap.size w w16 := (HS15.out.below.setCell (by show w.heap.size ≤ w7.heap.size; have := (HS15.out.res (w7.heap.size, { found := f0, value := x0 }) (by simp)).1; simp only at this; omega) _).trans (hb16.mono (by rw [size_setCell]; exact HS15.out.below.size))
      have HBB := Lib.hid BB
      simp only [ResD.cells] at q7 q8 q9 q10 q11 q12 q13 q14 q15
      clear BB hb16 HS15 HR7 p7 g7
      go_wp2_with fail
      go_ret
      exact ⟨rfl, HBB.out⟩
end Go.Proofs.Ytagfghihnkkfiaa
