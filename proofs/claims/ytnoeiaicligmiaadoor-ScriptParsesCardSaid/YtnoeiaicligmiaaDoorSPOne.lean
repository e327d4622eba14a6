/- The walk of the reference's key. The walk of the reference's line. The walk of the reference's Format. The walks of the reference's readNatural and readWhole. The walk of the reference's readWhole. The walk of the reference's readKey. The walk of the reference's Words. The walks of the reference's lines and numbers. The walk of the reference's operation. The walk of the reference's take: done, mask, thread, picks. -/
import Derived.Test.YtnoeiaicligmiaaDoorSWho
import Derived.Test.YtnoeiaicligmiaaDoorSFmt
import Derived.Test.YtnoeiaicligmiaaDoorSSig
import Derived.Test.YtnoeiaicligmiaaDoorSKeyP
import Derived.Test.YtnoeiaicligmiaaDoorSGen
import Derived.RegionTactic
import Derived.Test.YtnoeiaicligmiaaDoorSPick
import Derived.Test.YtnoeiaicligmiaaDoorSOp
import Derived.Test.YtnoeiaicligmiaaDoorSBox
namespace Go.Proofs.YtnoeiaicligmiaaDoor
set_option linter.unusedVariables false
set_option linter.unusedSimpArgs false
open Go Go.RowKit
def hexC : ByteArray := ⟨#[48, 49, 50, 51, 52, 53, 54, 55, 56, 57, 97, 98, 99, 100, 101, 102]⟩
theorem slice_hex (n : Nat) (h : n < 16) (W : World) : (Instr.slice 9 (.string ⟨#[48, 49, 50, 51, 52, 53, 54, 55, 56, 57, 97, 98, 99, 100, 101, 102]⟩) (some (.int .u8 n)) (some (.int .u8 ((n : Int) + 1))) none).run Tryd.prog W = .ok (.string ⟨#[hexD n]⟩) W := by
  rcases (by omega : n = 0 ∨ n = 1 ∨ n = 2 ∨ n = 3 ∨ n = 4 ∨ n = 5 ∨ n = 6 ∨ n = 7 ∨ n = 8 ∨ n = 9 ∨ n = 10 ∨ n = 11 ∨ n = 12 ∨ n = 13 ∨ n = 14 ∨ n = 15) with rfl | rfl | rfl | rfl | rfl | rfl | rfl | rfl | rfl | rfl | rfl | rfl | rfl | rfl | rfl | rfl <;> kernel_rfl
theorem app_two (a b : UInt8) : (ByteArray.mk #[a]) ++ ⟨#[b]⟩ = ⟨#[a, b]⟩ := rfl
def keyP (k : List UInt8) (j : Nat) : List UInt8 := 120 :: (k.take j).flatMap (fun b => [hexD (b.toNat / 16), hexD (b.toNat % 16)])
theorem keyP_len (k : List UInt8) (j : Nat) (h : j ≤ k.length) : (keyP k j).length = 2 * j + 1 := by
  have : ∀ l : List UInt8, (l.flatMap (fun b => [hexD (b.toNat / 16), hexD (b.toNat % 16)])).length = 2 * l.length := by
    intro l
    induction l with
    | nil => rfl
    | cons x r ih => simp only [List.flatMap_cons, List.length_append, List.length_cons, List.length_nil, ih]; omega
  unfold keyP
  rw [List.length_cons, this, List.length_take, Nat.min_eq_left h]
theorem keyP_succ (k : List UInt8) (j : Nat) (b : UInt8) (h : k[j]? = some b) : keyP k (j + 1) = keyP k j ++ [hexD (b.toNat / 16), hexD (b.toNat % 16)] := by
  unfold keyP
  have e : k.take (j + 1) = k.take j ++ [b] := by rw [List.take_add_one, h]; rfl
  rw [e, List.flatMap_append]
  rfl
theorem keyP_all (k : List UInt8) : keyP k k.length = keyT k := by unfold keyP keyT; rw [List.take_length]
def KeyLp (w : World) (k : List UInt8) (s i : Value) (wr : World) : Prop :=
  ∃ (j : Nat) (S : ByteArray), j ≤ k.length ∧ i = .int .i64 j ∧ s = .string S ∧ S.data.toList = keyP k j ∧ FewDraws w wr
set_option maxHeartbeats 2000000 in
theorem rkey_any (key : ByteArray) (hk : key.size ≤ 140737488355328) (w : World) : Calls Tryd.prog 42 #[.string key] w fun e w' => e = .returned (.string ⟨(keyT key.data.toList).toArray⟩) ∧ FewDraws w w' := by
  have hks : key.size = key.data.toList.length := Lib.size_eq key
  have KS := Lib.hid hks
  clear hks
  go_enter Tryd.func42, Tryd.ntmps42
  go_wp2_with fail
  go_loopw [3, 4] (fun s i wr => KeyLp w key.data.toList s i wr) (fun _ i _ => key.size - (intOf i).toNat)
  case atStart => exact ⟨0, _, by omega, rfl, rfl, rfl, FewDraws.refl w⟩
  case round =>
    obtain ⟨j, S, hj, rfl, rfl, hS, hf⟩ := hrel
    have HF := Lib.hid hf
    have HS := Lib.hid hS
    have hsz : S.size ≤ 281474976710657 := by rw [Lib.size_eq, hS, keyP_len _ _ hj]; have := KS.out; omega
    have hjk : j ≤ key.size := by rw [KS.out]; exact hj
    clear hf hS hj
    by_cases hlt : j < key.size
    · have hj0 : (0 : Int) ≤ j := by omega
      have hj1 : (j : Int) < key.size := by omega
      have hb := UInt8.toNat_lt key[j]
      have a1 := and_15 key[j].toNat hb
      have w1 : IntKind.u8.wrap ((key[j].toNat : Int) / 16 + 1) = (key[j].toNat : Int) / 16 + 1 := by rw [IntKind.wrap_u8]; omega
      have w2 : IntKind.u8.wrap ((key[j].toNat : Int) % 16 + 1) = (key[j].toNat : Int) % 16 + 1 := by rw [IntKind.wrap_u8]; omega
      have s1 := slice_hex (key[j].toNat / 16) (by omega)
      have s2 := slice_hex (key[j].toNat % 16) (by omega)
      simp only [Int.natCast_ediv, Int.natCast_emod, Int.cast_ofNat_Int] at s1 s2
      have c1 := app_two (hexD (key[j].toNat / 16)) (hexD (key[j].toNat % 16))
      go_wp2_with fail
      go_quiet (fail)
      go_wp2_with fail
      go_roundw
      case rel =>
        refine ⟨j + 1, _, by rw [← KS.out]; omega, by go_num, rfl, ?_, HF.out.drewN _⟩
        rw [ByteArray.data_append, Array.toList_append, HS.out]
        exact (keyP_succ _ _ _ (by rw [Array.getElem?_toList, Array.getElem?_eq_getElem (by exact hlt)]; rfl)).symm
      case measure => simp [intOf]; omega
    · have hje : j = key.size := by omega
      have KA := Lib.hid (keyP_all key.data.toList)
      subst hje
      go_wp2_with fail
      go_ret
      refine ⟨?_, HF.out⟩
      have hS := HS.out
      rw [KS.out, KA.out] at hS
      rw [← hS, show (⟨S.data.toList.toArray⟩ : ByteArray) = S by cases S; simp]
      rfl
end Go.Proofs.YtnoeiaicligmiaaDoor
namespace Go.Proofs.YtnoeiaicligmiaaDoor
set_option linter.unusedVariables false
set_option linter.unusedSimpArgs false
open Go Go.RowKit
theorem bytes_of (l : List UInt8) : ∃ A : ByteArray, A = ⟨l.toArray⟩ ∧ A.data.toList = l ∧ A.size = l.length := ⟨_, rfl, by simp, by simp [ByteArray.size]⟩
theorem toList_app (a b : ByteArray) : (a ++ b).data.toList = a.data.toList ++ b.data.toList := by rw [ByteArray.data_append, Array.toList_append]
theorem bytes_is {A : ByteArray} {l : List UInt8} (h : A.data.toList = l) : A = ⟨l.toArray⟩ := by subst h; cases A; simp
set_option maxHeartbeats 2000000 in
theorem rline_any (o : OpD) (ho : OpOk o) (hk : o.key.size ≤ 140737488355328) (w : World) : Calls Tryd.prog 25 #[.agg #[.int .i64 o.kind, .int .i64 o.handle, .string o.key, .int .u64 o.value, .int .u64 o.expect]] w fun e w' => e = .returned (.string ⟨(lineT o).toArray⟩) ∧ Below w.heap.size w w' := by
  obtain ⟨k0, k1, h0, h1, v0, v1, e0, e1⟩ := ho
  obtain ⟨kind, handle, key, value, expect⟩ := o
  simp only at *
  obtain ⟨A1, a1, b1, z1⟩ := bytes_of (Lib.itoa kind)
  obtain ⟨A2, a2, b2, z2⟩ := bytes_of (Lib.itoa handle)
  obtain ⟨A3, a3, b3, z3⟩ := bytes_of (keyT key.data.toList)
  obtain ⟨A4, a4, b4, z4⟩ := bytes_of (Lib.decDigits value.toNat)
  obtain ⟨A5, a5, b5, z5⟩ := bytes_of (Lib.decDigits expect.toNat)
  have l1 := itoa_len kind k0 k1
  have l2 := itoa_len handle h0 h1
  have l4 := dec_len 19 value.toNat (by omega)
  have l5 := dec_len 19 expect.toNat (by omega)
  have l3 : (keyT key.data.toList).length = 2 * key.size + 1 := by rw [← keyP_all, keyP_len _ _ (Nat.le_refl _), Lib.size_eq key]
  rw [← z1] at l1
  rw [← z2] at l2
  rw [← z3] at l3
  rw [← z4] at l4
  rw [← z5] at l5
  have C1 : ∀ W, Calls Tryd.prog 26 #[.int .i64 kind] W fun e w' => e = .returned (.string A1) ∧ w' = W := fun W => (whole_any kind k0 k1 W).mono fun e w' ⟨he, hw⟩ => ⟨by rw [he, a1], hw.symm⟩
  have C2 : ∀ W, Calls Tryd.prog 26 #[.int .i64 handle] W fun e w' => e = .returned (.string A2) ∧ w' = W := fun W => (whole_any handle h0 h1 W).mono fun e w' ⟨he, hw⟩ => ⟨by rw [he, a2], hw.symm⟩
  have C3 : ∀ W, Calls Tryd.prog 42 #[.string key] W fun e w' => e = .returned (.string A3) ∧ ∃ m, w' = W.drewN m := fun W => (rkey_any key hk W).mono fun e w' ⟨he, hw⟩ => ⟨by rw [he, a3], hw⟩
  have C4 : ∀ W, Calls Tryd.prog 24 #[.int .u64 value] W fun e w' => e = .returned (.string A4) ∧ w' = W := fun W => by
    have := natural_any value.toNat (by omega) W
    rw [Int.toNat_of_nonneg v0] at this
    exact this.mono fun e w' ⟨he, hw⟩ => ⟨by rw [he, a4], hw.symm⟩
  have C5 : ∀ W, Calls Tryd.prog 24 #[.int .u64 expect] W fun e w' => e = .returned (.string A5) ∧ w' = W := fun W => by
    have := natural_any expect.toNat (by omega) W
    rw [Int.toNat_of_nonneg e0] at this
    exact this.mono fun e w' ⟨he, hw⟩ => ⟨by rw [he, a5], hw.symm⟩
  have FIN : Hid ((lineT ⟨kind, handle, key, value, expect⟩) = A1.data.toList ++ [32] ++ A2.data.toList ++ [32] ++ A3.data.toList ++ [32] ++ A4.data.toList ++ [32] ++ A5.data.toList ++ [10]) := by
    show _ = _
    rw [b1, b2, b3, b4, b5]
    simp [lineT, natT]
  have D1 := Lib.hid C1
  have D2 := Lib.hid C2
  have D3 := Lib.hid C3
  have D4 := Lib.hid C4
  have D5 := Lib.hid C5
  clear C1 C2 C3 C4 C5 a1 a2 a3 a4 a5 b1 b2 b3 b4 b5 z1 z2 z3 z4 z5 k0 k1 h0 h1 v0 v1 e0 e1
  go_enter Tryd.func25, Tryd.ntmps25
  go_wp2_with fail
  go_quiet ((first | (go_at_call 26; with_reducible exact Calls.quiet_of_same (D1.out _)) | (go_at_call 26; with_reducible exact Calls.quiet_of_same (D2.out _)) | (go_at_call 42; with_reducible exact Calls.quiet_of (D3.out _)) | (go_at_call 24; with_reducible exact Calls.quiet_of_same (D4.out _)) | (go_at_call 24; with_reducible exact Calls.quiet_of_same (D5.out _))))
  go_wp2_with fail
  go_ret
  refine ⟨?_, ?_⟩
  · rw [FIN.out]
    refine congrArg Ending.returned (congrArg Value.string (bytes_is ?_))
    simp only [toList_app]
  · exact ⟨rfl, rfl, rfl, ((Below.refl _ _).alloc (Nat.le_refl _) _).size, ((Below.refl _ _).alloc (Nat.le_refl _) _).block⟩
end Go.Proofs.YtnoeiaicligmiaaDoor
namespace Go.Proofs.YtnoeiaicligmiaaDoor
set_option linter.unusedVariables false
set_option linter.unusedSimpArgs false
open Go Go.RowKit
def RThr (w1 : World) (pre : List UInt8) (ts : List (List OpD)) (v i : Value) (wr : World) : Prop :=
  ∃ (k : Nat) (S : ByteArray), k ≤ ts.length ∧ i = .int .i64 k ∧ v = .string S ∧ S.data.toList = pre ++ (ts.take k).flatMap threadT ∧ S.size ≤ 40 + 4503599627370503 * k ∧ Below w1.heap.size w1 wr
def RLine (w1 : World) (l : List UInt8) (t : List OpD) (M : Nat) (v i : Value) (wr : World) : Prop :=
  ∃ (j : Nat) (S : ByteArray), j ≤ t.length ∧ i = .int .i64 j ∧ v = .string S ∧ S.data.toList = l ++ (t.take j).flatMap lineT ∧ S.size ≤ M + 281474976710656 * j ∧ Below w1.heap.size w1 wr
def RPick (w1 : World) (l : List UInt8) (ps : List Int) (v i : Value) (wr : World) : Prop :=
  ∃ (j : Nat) (S : ByteArray), j ≤ ps.length ∧ i = .int .i64 j ∧ v = .string S ∧ S.data.toList = l ++ (ps.take j).flatMap (fun p => 32 :: Lib.itoa p) ∧ S.size ≤ 36028797018964100 + 22 * j ∧ Below w1.heap.size w1 wr
theorem sz_list {S : ByteArray} {l : List UInt8} (h : S.data.toList = l) : S.size = l.length := by rw [Lib.size_eq, h]
theorem check_picks {s : ScrD} (h : checkS s = 0) : s.picks.length ≤ 67108864 ∧ ∀ t ∈ s.threads, t.length ≤ 16 := by
  unfold checkS at h
  by_cases h1 : 8 < s.threads.length ∨ 67108864 < s.picks.length
  · rw [if_pos h1] at h; omega
  · rw [if_neg h1] at h
    refine ⟨by omega, fun t ht => ?_⟩
    by_cases h2 : 16 < t.length
    · rw [if_pos (List.any_eq_true.2 ⟨t, ht, by simpa using h2⟩)] at h
      omega
    · omega
set_option maxRecDepth 100000 in
set_option maxHeartbeats 4000000 in
theorem rformat_bads (w : World) (A D : Option Addr) (c d : Nat) (s : ScrD) (h : ScrAt w A D s) (hc : checkS s = 3) :
    Calls Tryd.prog 9 #[scrV s.mask A s.threads.length c D s.picks.length d] w fun e w' => e = .returned (.tuple #[.string ⟨(formatS s).1.toArray⟩, .int .i64 (formatS s).2]) ∧ Below w.heap.size w w' := by
  have F0 := Lib.hid (format_bad s (by omega))
  have CH := Lib.hid (rcheck_any (w.alloc (.cells #[.int .u64 s.mask, .slice A s.threads.length c, .slice D s.picks.length d] 32)) A D c d s (h.below ((Below.refl _ _).alloc (Nat.le_refl _) _)))
  have hl0 := h.l0
  have hl1 := h.l1
  have HC := Lib.hid hc
  clear h hc
  simp only [scrV]
  go_enter Tryd.func9, Tryd.ntmps9
  go_wp2_with fail
  refine CH.out.mono ?_
  rintro e w1 ⟨rfl, hb⟩
  rw [HC.out]
  have HB := Lib.hid hb
  clear hb
  go_wp2_with fail
  go_ret2
  exact ⟨fmt_end F0.out, ((Below.refl _ _).alloc (Nat.le_refl _) _).trans (HB.out.mono (by simp))⟩
set_option maxRecDepth 100000 in
set_option maxHeartbeats 4000000 in
theorem rformat_good (w : World) (A D : Option Addr) (c d : Nat) (s : ScrD) (h : ScrAt w A D s) (ok : ScrOk s) (kf : ∀ t ∈ s.threads, ∀ o ∈ t, o.key.size ≤ 140737488351232) (hc : checkS s = 0) :
    Calls Tryd.prog 9 #[scrV s.mask A s.threads.length c D s.picks.length d] w fun e w' => e = .returned (.tuple #[.string ⟨(formatS s).1.toArray⟩, .int .i64 (formatS s).2]) ∧ Below w.heap.size w w' := by
  have F1 := Lib.hid (format_long s)
  have F2 := Lib.hid (format_fine s hc)
  have TX := Lib.hid (textS_eq s)
  have CH := Lib.hid (rcheck_any (w.alloc (.cells #[.int .u64 s.mask, .slice A s.threads.length c, .slice D s.picks.length d] 32)) A D c d s (h.below ((Below.refl _ _).alloc (Nat.le_refl _) _)))
  have SC0 := Lib.hid (h.below ((Below.refl _ _).alloc (Nat.le_refl _) (.cells #[.int .u64 s.mask, .slice A s.threads.length c, .slice D s.picks.length d] 32)))
  have hl0 := h.l0
  have hl1 := h.l1
  have hl8 := check_len hc
  have hlp := (check_picks hc).1
  have HL16 := Lib.hid (check_picks hc).2
  have KF := Lib.hid kf
  have OK := Lib.hid ok
  have HC := Lib.hid hc
  have nl := nat_len s.mask ok.m1
  obtain ⟨NA, na1, na2, na3⟩ := bytes_of (natT s.mask)
  rw [← na3] at nl
  have NM : ∀ W, Calls Tryd.prog 24 #[.int .u64 s.mask] W fun e w' => e = .returned (.string NA) ∧ W = w' := fun W => by
    have := natural_any s.mask.toNat (by have := ok.m0; have := ok.m1; omega) W
    rw [Int.toNat_of_nonneg ok.m0] at this
    exact this.mono fun e w' ⟨he, hw⟩ => ⟨by rw [he, na1]; rfl, hw⟩
  have NN := Lib.hid NM
  have N2 := Lib.hid na2
  clear h hc ok kf NM na1 na2 na3
  simp only [scrV]
  go_enter Tryd.func9, Tryd.ntmps9
  go_wp2_with fail
  refine CH.out.mono ?_
  rintro e w1 ⟨rfl, hb⟩
  rw [HC.out]
  have hz : w.heap.size < w1.heap.size := by
    have := hb.size
    simp at this
    omega
  have BX := Lib.hid (scr_box hb (by simp))
  have bx := scr_box hb (by simp)
  have SC := Lib.hid (SC0.out.below hb)
  have HB0 := Lib.hid hb
  have FIN := Lib.hid (fun wr (h : Below w1.heap.size w1 wr) => (((Below.refl _ w).alloc (Nat.le_refl _) _).trans (hb.mono (by simp))).trans (h.mono (Nat.le_of_lt hz)))
  clear hb CH SC0
  go_wp2_with fail
  refine (NN.out _).mono ?_
  rintro e w' ⟨rfl, rfl⟩
  go_wp2_with fail
  obtain ⟨pre, hpre⟩ : ∃ pre, pre = preT s.mask := ⟨_, rfl⟩
  obtain ⟨PA, hPA⟩ : ∃ PA : ByteArray, PA = (⟨#[109, 97, 115, 107, 32]⟩ : ByteArray) ++ NA ++ ⟨#[10]⟩ := ⟨_, rfl⟩
  have hPL : PA.data.toList = pre := by rw [hPA, hpre, toList_app, toList_app, N2.out]; rfl
  have hPS : PA.size ≤ 40 := by rw [hPA, ByteArray.size_append, ByteArray.size_append]; show 5 + NA.size + 1 ≤ 40; omega
  rw [← hpre] at TX
  rw [← hPA]
  have PL := Lib.hid hPL
  clear hPL hPA hpre NN N2 nl
  obtain ⟨m, ts, ps⟩ := s
  simp only at *
  have ATS : Hid (RThr w1 pre ts (.string PA) (.int .i64 0) w1) := ⟨0, PA, by omega, rfl, rfl, by simpa using PL.out, by omega, Below.refl _ _⟩
  clear hPS
  go_loopw [5, 6] (fun v i wr => RThr w1 pre ts v i wr) (fun _ i _ => ts.length - (intOf i).toNat)
  case atStart => exact ATS.out
  case round =>
    clear ATS bx
    obtain ⟨k, S, hk, rfl, rfl, hS, hsz, hbr⟩ := hrel
    have HS := Lib.hid hS
    have HR := Lib.hid hbr
    have x1 := (hbr.cell (p := ⟨w.heap.size, 1, none⟩) hz).trans (BX.out 1)
    have x2 := (hbr.cell (p := ⟨w.heap.size, 2, none⟩) hz).trans (BX.out 2)
    simp only [List.getElem?_toArray, List.getElem?_cons_succ, List.getElem?_cons_zero] at x1 x2
    clear hbr hS
    by_cases hlt : k < ts.length
    · obtain ⟨t, ht⟩ : ∃ t, ts[k]? = some t := ⟨_, List.getElem?_eq_getElem hlt⟩
      obtain ⟨b, off, u, cc, rfl, hbz, hcell0, hops⟩ := thr_cell3 SC.out.thr ht
      have HC0 := Lib.hid (show ∀ W, Below w1.heap.size w1 W → W.cell? ⟨b, off + k, none⟩ = some (.slice u t.length cc) from fun W hW => (hW.cell (p := ⟨b, off + k, none⟩) hbz).trans hcell0)
      clear hcell0
      have ht2 := (SC.out).l2 t (List.mem_of_getElem? ht)
      have ht16 := HL16.out t (List.mem_of_getElem? ht)
      have TT := Lib.hid ht
      have OPS := Lib.hid hops
      clear ht hops
      have hj0 : (0 : Int) ≤ k := by omega
      have hj1 : (k : Int) < ts.length := by omega
      have hszz : S.size ≤ 36028797018964064 := by omega
      go_wp2_with fail
      obtain ⟨S4, e4⟩ : ∃ S4 : ByteArray, S4 = S ++ ⟨#[116, 104, 114, 101, 97, 100, 10]⟩ := ⟨_, rfl⟩
      obtain ⟨l4, hl4⟩ : ∃ l4, l4 = pre ++ (ts.take k).flatMap threadT ++ [116, 104, 114, 101, 97, 100, 10] := ⟨_, rfl⟩
      have h4 : S4.data.toList = l4 := by rw [e4, hl4, toList_app, HS.out]
      have hs4 : S4.size ≤ 47 + 4503599627370503 * k := by rw [e4, ByteArray.size_append]; show S.size + 7 ≤ _; omega
      rw [← e4]
      have AT2 : Hid (RLine w1 l4 t (47 + 4503599627370503 * k) (.string S4) (.int .i64 0) wr) := ⟨0, S4, by omega, rfl, rfl, by simpa using h4, by omega, HR.out⟩
      have L4 := Lib.hid hl4
      clear e4 h4 hs4 HR HS hl4 x1 x2
      clear hszz hsz
      go_loopw [5, 7] (fun v i wr => RLine w1 l4 t (47 + 4503599627370503 * k) v i wr) (fun _ i _ => t.length - (intOf i).toNat)
      case atStart => exact AT2.out
      case round =>
        clear AT2
        obtain ⟨j, S, hj, rfl, rfl, hS, hsz, hbr⟩ := hrel
        have HS := Lib.hid hS
        have HR := Lib.hid hbr
        have x1 := (hbr.cell (p := ⟨w.heap.size, 1, none⟩) hz).trans (BX.out 1)
        have hcell := HC0.out _ hbr
        simp only [List.getElem?_toArray, List.getElem?_cons_succ, List.getElem?_cons_zero] at x1
        clear hbr hS
        by_cases hjt : j < t.length
        · obtain ⟨o, ho⟩ : ∃ o, t[j]? = some o := ⟨_, List.getElem?_eq_getElem hjt⟩
          obtain ⟨b2, off2, rfl, c0, c1, c2, c3, c4⟩ := ops_cells (OPS.out.keep HR.out.size HR.out.block) rfl ho
          have TF := Lib.hid (take_flat lineT t j o ho)
          have OO := Lib.hid (OK.out.ops t (List.mem_of_getElem? TT.out) o (List.mem_of_getElem? ho))
          have hkey := KF.out t (List.mem_of_getElem? TT.out) o (List.mem_of_getElem? ho)
          have hll := line_len o OO.out
          have LN := Lib.hid (rline_any o OO.out (by omega))
          obtain ⟨LA, la1, la2, la3⟩ := bytes_of (lineT o)
          have las : LA.size ≤ 281474976710656 := by omega
          have L1 := Lib.hid la1
          have L2 := Lib.hid la2
          clear ho la1 la2 la3 hll
          have hj2 : (0 : Int) ≤ j := by omega
          have hj3 : (j : Int) < t.length := by omega
          have hj4 : (0 : Int) ≤ k := by omega
          have hj5 : (k : Int) < ts.length := by omega
          have hszz : S.size ≤ 45035996273705000 := by omega
          go_wp2_with fail
          refine (LN.out _).mono ?_
          rintro e w7 ⟨rfl, hb7⟩
          have B7 := Lib.hid (HR.out.trans (hb7.mono HR.out.size))
          clear hb7 HR x1 hcell c0 c1 c2 c3 c4
          rw [← L1.out]
          go_wp2_with fail
          go_roundw
          case rel =>
            refine ⟨j + 1, S ++ LA, by omega, by go_num, rfl, ?_, ?_, B7.out⟩
            · rw [toList_app, HS.out, L2.out, TF.out, List.append_assoc]
            · rw [ByteArray.size_append]; omega
          case measure => simp [intOf]; omega
        · obtain rfl : j = t.length := by omega
          rw [List.take_length] at HS
          go_wp2_with fail
          refine ⟨⟨k + 1, S, by omega, by go_num, rfl, ?_, by omega, HR.out⟩, by simp [intOf]; omega⟩
          rw [take_flat threadT ts k t TT.out, HS.out, L4.out]
          simp [threadT, threadW, List.append_assoc]
    · have hke : k = ts.length := by omega
      subst hke
      rw [List.take_length] at HS
      have hszz : S.size ≤ 36028797018964090 := by omega
      go_wp2_with fail
      obtain ⟨S5, e5⟩ : ∃ S5 : ByteArray, S5 = S ++ ⟨#[112, 105, 99, 107, 115]⟩ := ⟨_, rfl⟩
      obtain ⟨l5, hl5⟩ : ∃ l5, l5 = pre ++ ts.flatMap threadT ++ picksW := ⟨_, rfl⟩
      have h5 : S5.data.toList = l5 := by rw [e5, hl5, toList_app, HS.out]; rfl
      have hs5 : S5.size ≤ 36028797018964100 := by rw [e5, ByteArray.size_append]; show S.size + 5 ≤ _; omega
      rw [← e5]
      have AT3 : Hid (RPick w1 l5 ps (.string S5) (.int .i64 0) wr) := ⟨0, S5, by omega, rfl, rfl, by simpa using h5, by omega, HR.out⟩
      have L5 := Lib.hid hl5
      clear e5 h5 hs5 HR HS hl5 x1 x2 hszz hsz
      go_loopw [5, 8] (fun v i wr => RPick w1 l5 ps v i wr) (fun _ i _ => ps.length - (intOf i).toNat)
      case atStart => exact AT3.out
      case round =>
        clear AT3
        obtain ⟨j, S, hj, rfl, rfl, hS, hsz, hbr⟩ := hrel
        have HS := Lib.hid hS
        have HR := Lib.hid hbr
        have x2 := (hbr.cell (p := ⟨w.heap.size, 2, none⟩) hz).trans (BX.out 2)
        simp only [List.getElem?_toArray, List.getElem?_cons_succ, List.getElem?_cons_zero] at x2
        clear hbr hS
        have hszz : S.size ≤ 45035996273705000 := by omega
        by_cases hjt : j < ps.length
        · obtain ⟨p, hp⟩ : ∃ p, ps[j]? = some p := ⟨_, List.getElem?_eq_getElem hjt⟩
          obtain ⟨b, off, rfl, hcell⟩ := pick_cell (SC.out.below HR.out).pks hp
          obtain ⟨p0, p1⟩ := OK.out.picks p (List.mem_of_getElem? hp)
          have li := itoa_len p p0 p1
          have TF := Lib.hid (take_flat (fun p => 32 :: Lib.itoa p) ps j p hp)
          have WH := Lib.hid (whole_any p p0 p1)
          obtain ⟨LA, la1, la2, la3⟩ := bytes_of (Lib.itoa p)
          have las : LA.size ≤ 21 := by omega
          have L1 := Lib.hid la1
          have L2 := Lib.hid la2
          clear hp la1 la2 la3 li p0 p1
          have hj0 : (0 : Int) ≤ j := by omega
          have hj1 : (j : Int) < ps.length := by omega
          by_cases hbig : 1048576 < S.size
          · have hd : decide ((1048576 : Int) < (S.size : Int)) = true := decide_eq_true (by omega)
            go_wp2_with fail
            go_ret2
            refine ⟨fmt_end (F1.out S.data.toList ((ps.drop j).flatMap (fun p => 32 :: Lib.itoa p) ++ [10]) ?_ (by rw [← Lib.size_eq]; exact hbig)), FIN.out _ HR.out⟩
            rw [TX.out, HS.out, L5.out, take_drop_flat (fun p => 32 :: Lib.itoa p) ps j]
            simp [List.append_assoc]
          · have hd : decide ((1048576 : Int) < (S.size : Int)) = false := decide_eq_false (by omega)
            go_wp2_with fail
            refine (WH.out _).mono ?_
            rintro e w7 ⟨rfl, rfl⟩
            rw [← L1.out]
            go_wp2_with fail
            go_roundw
            case rel =>
              refine ⟨j + 1, _, by omega, by go_num, rfl, ?_, ?_, HR.out⟩
              · rw [toList_app, toList_app, HS.out, L2.out, TF.out, List.append_assoc]
                rfl
              · rw [ByteArray.size_append, ByteArray.size_append]; show S.size + (1 + LA.size) ≤ _; omega
            case measure => simp [intOf]; omega
        · obtain rfl : j = ps.length := by omega
          rw [List.take_length] at HS
          obtain ⟨S8, e8⟩ : ∃ S8 : ByteArray, S8 = S ++ ⟨#[10]⟩ := ⟨_, rfl⟩
          have h8 : S8.data.toList = textS ⟨m, ts, ps⟩ := by
            rw [e8, TX.out, toList_app, HS.out, L5.out]
          have z8 : S8.size = S.size + 1 := by rw [e8, ByteArray.size_append]; rfl
          have H8 := Lib.hid h8
          clear h8
          by_cases hbig : 1048576 < S.size + 1
          · have hd : decide ((1048576 : Int) < (S.size : Int) + 1) = true := decide_eq_true (by omega)
            go_wp2_with fail
            go_ret2
            exact ⟨fmt_end (F1.out S8.data.toList [] (by rw [H8.out]; simp) (by rw [← Lib.size_eq, z8]; exact hbig)), FIN.out _ HR.out⟩
          · have hd : decide ((1048576 : Int) < (S.size : Int) + 1) = false := decide_eq_false (by omega)
            go_wp2_with fail
            go_ret2
            refine ⟨?_, FIN.out _ HR.out⟩
            have := fmt_end (F2.out (by rw [← H8.out, ← Lib.size_eq, z8]; omega))
            rw [← H8.out] at this
            rw [← this, ← e8]
            cases S8
            simp
theorem rformat_any (w : World) (A D : Option Addr) (c d : Nat) (s : ScrD) (h : ScrAt w A D s) (ok : ScrOk s) (kf : ∀ t ∈ s.threads, ∀ o ∈ t, o.key.size ≤ 140737488351232) :
    Calls Tryd.prog 9 #[scrV s.mask A s.threads.length c D s.picks.length d] w fun e w' => e = .returned (.tuple #[.string ⟨(formatS s).1.toArray⟩, .int .i64 (formatS s).2]) ∧ Below w.heap.size w w' := by
  rcases check_or s with hc | hc
  · exact rformat_good w A D c d s h ok kf hc
  · exact rformat_bads w A D c d s h hc
end Go.Proofs.YtnoeiaicligmiaaDoor
namespace Go.Proofs.YtnoeiaicligmiaaDoor
set_option linter.unusedVariables false
set_option linter.unusedSimpArgs false
open Go Go.RowKit
def RNatRel (s : ByteArray) (v i : Value) : Prop :=
  ∃ j acc : Nat, j ≤ s.size ∧ acc < 18446744073709551616 ∧ v = .int .u64 acc ∧ i = .int .i64 j ∧ digits 0 s.data.toList = digits acc (s.data.toList.drop j)
set_option maxHeartbeats 1000000 in
theorem rnat_any (s : ByteArray) (w : World) (hs : s.size ≤ 4611686018427387904) :
    Calls Tryd.prog 54 #[.string s] w fun e w' => e = .returned (.tuple #[.int .u64 (natR s.data.toList).1, .bool (natR s.data.toList).2]) ∧ w = w' := by
  by_cases h0 : s.size = 0
  · obtain rfl : s = ⟨#[]⟩ := by
      obtain ⟨⟨l⟩⟩ := s
      cases l with
      | nil => rfl
      | cons x r => simp [ByteArray.size] at h0
    go_enter Tryd.func54, Tryd.ntmps54
    go_wp2
    go_ret2
    exact ⟨uns_end rfl, rfl⟩
  have hp : 0 < s.size := by omega
  have hne : ¬ s.toList = [] := by
    rw [Lib.toList_data]
    intro h
    have := Lib.size_eq s
    rw [h] at this
    simp only [List.length_nil] at this
    omega
  have hie : s.toList.isEmpty = false := by simpa using hne
  by_cases hz : s[0].toNat = 48 ∧ 1 < s.size
  · have X := Lib.hid (natR_none (readNat_bad s hp hz.1 hz.2))
    have h48 : ((s[0].toNat : Int) == 48) = true := by simp; omega
    have h1 : decide ((1 : Int) < (s.size : Int)) = true := decide_eq_true (by omega)
    have h1' : (1 : Int) < (s.size : Int) := by omega
    clear hz
    go_enter Tryd.func54, Tryd.ntmps54
    go_wp2
    go_ret2
    exact ⟨uns_end X.out, rfl⟩
  have X := Lib.hid (readNat_fine s hp (by omega))
  have key : (((s[0].toNat : Int) == 48) = false ∧ (decide ((1 : Int) < (s.size : Int)) = true ∨ decide ((1 : Int) < (s.size : Int)) = false)) ∨ decide ((1 : Int) < (s.size : Int)) = false := by
    by_cases h1 : 1 < s.size
    · refine Or.inl ⟨?_, Or.inl (decide_eq_true (by omega))⟩
      have : s[0].toNat ≠ 48 := fun h => hz ⟨h, h1⟩
      simp; omega
    · exact Or.inr (decide_eq_false (by omega))
  clear hz
  rcases key with ⟨hb48, h1 | h1⟩ | h1
  all_goals
    go_enter Tryd.func54, Tryd.ntmps54
    go_wp2_with fail
    try clear hb48
    clear h1
    go_loop [4, 5] (fun v i => RNatRel s v i) (fun _ i => s.size - (intOf i).toNat)
    case atStart => exact ⟨0, 0, by omega, by omega, rfl, rfl, rfl⟩
    case round =>
      obtain ⟨j, acc, hj, hacc, rfl, rfl, hd⟩ := hrel
      have HD := Lib.hid hd
      clear hd
      by_cases hlt : j < s.size
      · have DA := Lib.hid (drop_at s j hlt)
        have hb := UInt8.toNat_lt s[j]
        have hj0 : (0 : Int) ≤ j := by omega
        have hj1 : (j : Int) < s.size := by omega
        by_cases c0 : s[j].toNat < 48
        · have hd0 : decide ((s[j].toNat : Int) < 48) = true := decide_eq_true (by omega)
          go_wp2_with fail
          go_ret2
          refine ⟨uns_end (natR_none ?_), rfl⟩
          rw [X.out, HD.out, DA.out]
          exact digits_bad _ _ _ (by omega)
        by_cases c1 : 57 < s[j].toNat
        · have hd0 : decide ((s[j].toNat : Int) < 48) = false := decide_eq_false (by omega)
          have hd1 : decide ((57 : Int) < (s[j].toNat : Int)) = true := decide_eq_true (by omega)
          go_wp2_with fail
          go_ret2
          refine ⟨uns_end (natR_none ?_), rfl⟩
          rw [X.out, HD.out, DA.out]
          exact digits_bad _ _ _ (by omega)
        have hd0 : decide ((s[j].toNat : Int) < 48) = false := decide_eq_false (by omega)
        have hd1 : decide ((57 : Int) < (s[j].toNat : Int)) = false := decide_eq_false (by omega)
        by_cases c2 : acc * 10 + (s[j].toNat - 48) < 18446744073709551616
        · go_wp2_with fail
          all_goals first
            | (exfalso; omega)
            | (go_round
               case rel =>
                 refine ⟨j + 1, acc * 10 + (s[j].toNat - 48), by omega, by omega, by go_num, by go_num, ?_⟩
                 rw [HD.out, DA.out]
                 exact digits_step _ _ _ (by omega)
               case measure => simp [intOf]; omega)
        · go_wp2_with fail
          all_goals first
            | (exfalso; omega)
            | (go_ret2
               refine ⟨uns_end (natR_none ?_), rfl⟩
               rw [X.out, HD.out, DA.out]
               exact digits_bad _ _ _ (by omega))
      · have E := Lib.hid (show readNat s.data.toList = some acc by
          rw [X.out, HD.out, List.drop_of_length_le (by rw [← Lib.size_eq]; omega)]; rfl)
        go_wp2_with fail
        go_ret2
        exact ⟨uns_end (natR_some E.out), rfl⟩
end Go.Proofs.YtnoeiaicligmiaaDoor
namespace Go.Proofs.YtnoeiaicligmiaaDoor
set_option linter.unusedVariables false
set_option linter.unusedSimpArgs false
open Go Go.RowKit
theorem tail_list {s : ByteArray} {c : UInt8} {r : List UInt8} (h : s.data.toList = c :: r) : (s.extract 1 s.size).data.toList = r := by
  rw [Lib.size_eq, h]
  simp [ByteArray.data_extract, Array.toList_extract, h]
theorem head_of {s : ByteArray} {c : UInt8} {r : List UInt8} (h : s.data.toList = c :: r) : 0 < s.size ∧ ∀ hp : 0 < s.size, s[0] = c := by
  have h0 : 0 < s.size := by rw [Lib.size_eq, h]; simp
  refine ⟨h0, fun hp => ?_⟩
  have e0 := drop_at s 0 hp
  rw [List.drop_zero, h] at e0
  simp only [List.cons.injEq] at e0
  exact e0.1.symm
theorem not_empty {s : ByteArray} (hp : 0 < s.size) : s.toList.isEmpty = false ∧ ¬ s.toList = [] := by
  have hne : ¬ s.toList = [] := by
    rw [Lib.toList_data]
    intro h
    have := Lib.size_eq s
    rw [h] at this
    simp only [List.length_nil] at this
    omega
  exact ⟨by simpa using hne, hne⟩
set_option maxHeartbeats 1000000 in
theorem rwhole_any (s : ByteArray) (w : World) (hs : s.size ≤ 4611686018427387904) :
    Calls Tryd.prog 66 #[.string s] w fun e w' => e = .returned (.tuple #[.int .i64 (intR s.data.toList).1, .bool (intR s.data.toList).2]) ∧ w = w' := by
  by_cases h0 : s.size = 0
  · obtain rfl : s = ⟨#[]⟩ := by
      obtain ⟨⟨l⟩⟩ := s
      cases l with
      | nil => rfl
      | cons x r => simp [ByteArray.size] at h0
    have U := Lib.hid (rnat_any ⟨#[]⟩ w hs)
    go_enter Tryd.func66, Tryd.ntmps66
    go_wp2_with fail
    refine U.out.mono ?_
    rintro e w' ⟨rfl, rfl⟩
    rw [show natR (ByteArray.mk #[]).data.toList = (0, false) from rfl]
    go_wp2_with fail
    go_ret2
    exact ⟨sig_end rfl, rfl⟩
  obtain ⟨hie, hne⟩ := not_empty (s := s) (by omega)
  have hp : 0 < s.size := by omega
  rcases pre_cases s.data.toList 45 with ⟨r, hl, _, _⟩ | ⟨_, _, hh⟩
  · have hc := (head_of hl).2 hp
    have hb : ((s[0].toNat : Int) == 45) = true := by rw [hc]; rfl
    have hz1 : (1 : Int) ≤ s.size := by omega
    have U := Lib.hid (rnat_any (s.extract 1 s.size) w (by simp [ByteArray.size_extract]; omega))
    rw [tail_list hl] at U
    have E := Lib.hid (readInt_minus r)
    rw [← hl] at E
    clear hl hc
    cases hn : readNat r with
    | none =>
      rw [natR_none hn] at U
      rw [hn] at E
      have X := Lib.hid (intR_none E.out)
      clear hn
      go_enter Tryd.func66, Tryd.ntmps66
      go_wp2_with fail
      refine U.out.mono ?_
      rintro e w2 ⟨rfl, rfl⟩
      go_wp2_with fail
      go_ret2
      exact ⟨sig_end X.out, rfl⟩
    | some n =>
      have hlt := readNat_lt hn
      rw [natR_some hn] at U
      rw [hn] at E
      clear hn
      simp only at E
      by_cases h0 : n = 0
      · subst h0
        rw [if_pos (Or.inl rfl)] at E
        have X := Lib.hid (intR_none E.out)
        go_enter Tryd.func66, Tryd.ntmps66
        go_wp2_with fail
        refine U.out.mono ?_
        rintro e w2 ⟨rfl, rfl⟩
        go_wp2_with fail
        go_ret2
        exact ⟨sig_end X.out, rfl⟩
      have hn0 : ((n : Int) == 0) = false := by simp; omega
      by_cases h63 : 9223372036854775808 < n
      · rw [if_pos (Or.inr h63)] at E
        have X := Lib.hid (intR_none E.out)
        have hd : decide ((9223372036854775808 : Int) < (n : Int)) = true := decide_eq_true (by omega)
        go_enter Tryd.func66, Tryd.ntmps66
        go_wp2_with fail
        refine U.out.mono ?_
        rintro e w2 ⟨rfl, rfl⟩
        go_wp2_with fail
        go_ret2
        exact ⟨sig_end X.out, rfl⟩
      · rw [if_neg (by omega)] at E
        have X := Lib.hid (intR_some E.out)
        have hd : decide ((9223372036854775808 : Int) < (n : Int)) = false := decide_eq_false (by omega)
        obtain ⟨k, rfl⟩ : ∃ k, n = k + 1 := ⟨n - 1, by omega⟩
        have hk : k ≤ 9223372036854775807 := by omega
        have hd2 : decide ((9223372036854775808 : Int) < (k : Int) + 1) = false := decide_eq_false (by omega)
        have hn2 : ((k : Int) + 1 == 0) = false := by simp; omega
        have X2 := Lib.hid (show intR s.data.toList = (-(k : Int) - 1, true) by rw [X.out, show -((k + 1 : Nat) : Int) = -(k : Int) - 1 by omega])
        go_enter Tryd.func66, Tryd.ntmps66
        go_wp2_with fail
        refine U.out.mono ?_
        rintro e w2 ⟨rfl, rfl⟩
        go_wp2_with fail
        go_ret2
        exact ⟨sig_end X2.out, rfl⟩
  · have hb : ((s[0].toNat : Int) == 45) = false := by
      rw [beq_eq_false_iff_ne]
      intro h
      have e0 := drop_at s 0 hp
      rw [List.drop_zero] at e0
      rw [e0] at hh
      apply hh
      have : s[0] = 45 := UInt8.toNat_inj.1 (by simp; omega)
      simp [this]
    have U := Lib.hid (rnat_any s w hs)
    have E := Lib.hid (readInt_plus hh)
    clear hh
    cases hn : readNat s.data.toList with
    | none =>
      rw [natR_none hn] at U
      rw [hn] at E
      have X := Lib.hid (intR_none E.out)
      clear hn
      go_enter Tryd.func66, Tryd.ntmps66
      go_wp2_with fail
      refine U.out.mono ?_
      rintro e w2 ⟨rfl, rfl⟩
      go_wp2_with fail
      go_ret2
      exact ⟨sig_end X.out, rfl⟩
    | some n =>
      have hlt := readNat_lt hn
      rw [natR_some hn] at U
      rw [hn] at E
      clear hn
      simp only at E
      by_cases h63 : 9223372036854775807 < n
      · rw [if_pos h63] at E
        have X := Lib.hid (intR_none E.out)
        have hd : decide ((9223372036854775807 : Int) < (n : Int)) = true := decide_eq_true (by omega)
        go_enter Tryd.func66, Tryd.ntmps66
        go_wp2_with fail
        refine U.out.mono ?_
        rintro e w2 ⟨rfl, rfl⟩
        go_wp2_with fail
        go_ret2
        exact ⟨sig_end X.out, rfl⟩
      · rw [if_neg h63] at E
        have X := Lib.hid (intR_some E.out)
        have hd : decide ((9223372036854775807 : Int) < (n : Int)) = false := decide_eq_false (by omega)
        go_enter Tryd.func66, Tryd.ntmps66
        go_wp2_with fail
        refine U.out.mono ?_
        rintro e w2 ⟨rfl, rfl⟩
        go_wp2_with fail
        go_ret2
        exact ⟨sig_end X.out, rfl⟩
end Go.Proofs.YtnoeiaicligmiaaDoor
namespace Go.Proofs.YtnoeiaicligmiaaDoor
set_option linter.unusedVariables false
set_option linter.unusedSimpArgs false
open Go Go.RowKit
theorem Buf.none (w : World) : Buf w.heap.size w w (.slice none 0 0) [] := ⟨World.ownsRow_nil _ _ _ _, Below.refl _ _, fun k o hk _ _ => hk, Nat.le_refl _⟩
theorem Buf.drewN {B : Nat} {w0 w : World} {v : Value} {l : List UInt8} (h : Buf B w0 w v l) (n : Nat) : Buf B w0 (w.drewN n) v l := ⟨h.own, ⟨h.below.os, h.below.tape, h.below.output, h.below.size, h.below.block⟩, h.kept, h.size⟩
theorem hexbyte (x y : Nat) (hx : x < 16) (hy : y < 16) : (16 * (x : Int) + (y : Int)) = ((UInt8.ofNat (x * 16 + y)).toNat : Nat) := by
  have : (UInt8.ofNat (x * 16 + y)).toNat = x * 16 + y := by simp; omega
  rw [this]
  omega
def RKeyRel (w : World) (s : ByteArray) (v i : Value) (wr : World) : Prop :=
  ∃ (m : Nat) (bs : List UInt8), 2 * m + 1 ≤ s.size ∧ i = .int .i64 ((2 * m + 1 : Nat) : Int) ∧ bs.length ≤ m ∧ Buf w.heap.size w wr v bs ∧ hexes (s.data.toList.drop 1) = (hexes (s.data.toList.drop (2 * m + 1))).map (bs ++ ·)
set_option maxRecDepth 100000 in
set_option maxHeartbeats 2000000 in
theorem rrkey_any (s : ByteArray) (w : World) (hs : s.size ≤ 1048576) :
    Calls Tryd.prog 67 #[.string s] w fun e w' => e = .returned (.tuple #[.string ⟨(keyR s.data.toList).1.toArray⟩, .bool (keyR s.data.toList).2]) ∧ Below w.heap.size w w' := by
  by_cases hodd : s.size % 2 = 1
  case neg =>
    have X := Lib.hid (keyR_none (show readKey s.data.toList = none by
      have hsz := Lib.size_eq s
      cases hl : s.data.toList with
      | nil => rfl
      | cons a r =>
        rw [hl] at hsz
        simp only [List.length_cons] at hsz
        by_cases ha : a = 120
        · subst ha
          rw [readKey_x]
          exact hexes_odd (r.length / 2) r (by omega)
        · exact readKey_no (by simp [ha])))
    have hrem : (((s.size : Int) % 2) != 1) = true := by simp; omega
    clear hodd
    go_enter Tryd.func67, Tryd.ntmps67
    go_wp2_with fail
    go_ret2
    exact ⟨key_end X.out, Below.refl _ _⟩
  have hrem : (((s.size : Int) % 2) != 1) = false := by simp; omega
  have hp : 0 < s.size := by omega
  have e0 := drop_at s 0 hp
  rw [List.drop_zero, Nat.zero_add] at e0
  by_cases hx : s[0].toNat = 120
  case neg =>
    have X := Lib.hid (keyR_none (readKey_no (l := s.data.toList) (by
      rw [e0]
      simp only [List.head?_cons]
      intro h
      simp only [Option.some.injEq] at h
      rw [h] at hx
      exact hx rfl)))
    have hb : ((s[0].toNat : Int) != 120) = true := by simp; omega
    clear hodd hx e0
    go_enter Tryd.func67, Tryd.ntmps67
    go_wp2_with fail
    go_ret2
    exact ⟨key_end X.out, Below.refl _ _⟩
  have hb : ((s[0].toNat : Int) != 120) = false := by simp; omega
  have X := Lib.hid (show readKey s.data.toList = hexes (s.data.toList.drop 1) by
    have h120 : s[0] = 120 := UInt8.toNat_inj.1 hx
    conv => lhs; rw [e0, h120]
    exact readKey_x _)
  have HO := Lib.hid hodd
  clear hodd hx e0
  go_enter Tryd.func67, Tryd.ntmps67
  go_wp2_with fail
  clear hrem hb
  go_loopw [4, 5] (fun v i wr => RKeyRel w s v i wr) (fun _ i _ => s.size - (intOf i).toNat)
  case atStart => exact ⟨0, [], by omega, rfl, by simp, Buf.none w, by simp⟩
  case round =>
    obtain ⟨m, bs, hm, rfl, hbl, hbr, hst⟩ := hrel
    have HB := Lib.hid hbr
    have HS := Lib.hid hst
    clear hbr hst
    obtain ⟨j, hj⟩ : ∃ j, j = 2 * m + 1 := ⟨_, rfl⟩
    rw [← hj] at HS hm ⊢
    have JM := Lib.hid hj
    have hjm : m ≤ j := by omega
    clear hj
    by_cases hlt : j < s.size
    · have hlt2 : j + 1 < s.size := by have := HO.out; have := JM.out; omega
      have hj0 : (0 : Int) ≤ j := by omega
      have hj1 : (j : Int) < s.size := by omega
      have hj2 : IntKind.i64.wrap ((j : Int) + 1) = (j : Int) + 1 := IntWalk.i64_in _ (by omega)
      have hj3 : (0 : Int) ≤ (j : Int) + 1 := by omega
      have hj4 : (j : Int) + 1 < s.size := by omega
      have hj5 : ((j : Int) + 1).toNat = j + 1 := by omega
      have D1 := Lib.hid (drop_at s j hlt)
      have D2 := Lib.hid (drop_at s (j + 1) hlt2)
      have DA := Lib.hid (fun W => digit_any s[j] W)
      have DB := Lib.hid (fun W => digit_any s[j + 1] W)
      have xl := hexI_lt s[j]
      have yl := hexI_lt s[j + 1]
      have VX := Lib.hid (@hexV_of s[j])
      have VY := Lib.hid (@hexV_of s[j + 1])
      have NX := Lib.hid (@hexV_neg s[j])
      have NY := Lib.hid (@hexV_neg s[j + 1])
      have DA' : Hid (∀ W, Calls Tryd.prog 82 #[.int .u8 (s[j].toNat : Nat)] W fun e w' => e = .returned (.int .i64 (hexI s[j])) ∧ w' = W) := fun W => (DA.out W).mono fun _ _ p => ⟨p.1, p.2.symm⟩
      have DB' : Hid (∀ W, Calls Tryd.prog 82 #[.int .u8 (s[j + 1].toNat : Nat)] W fun e w' => e = .returned (.int .i64 (hexI s[j + 1])) ∧ w' = W) := fun W => (DB.out W).mono fun _ _ p => ⟨p.1, p.2.symm⟩
      clear DA DB
      generalize hexI s[j] = x at *
      generalize hexI s[j + 1] = y at *
      go_wp2_with fail
      go_quiet ((first | (go_at_call 82; with_reducible exact Calls.quiet_of_same (DA'.out _)) | (go_at_call 82; with_reducible exact Calls.quiet_of_same (DB'.out _))))
      by_cases hx0 : x < 0
      · have hd : decide (x < 0) = true := decide_eq_true hx0
        go_wp2_with fail
        go_ret2
        refine ⟨key_end (keyR_none ?_), (HB.out.drewN _).below⟩
        rw [X.out, HS.out, D1.out, hexes_one (NX.out hx0)]
        rfl
      have hd : decide (x < 0) = false := decide_eq_false hx0
      by_cases hy0 : y < 0
      · have hd2 : decide (y < 0) = true := decide_eq_true hy0
        go_wp2_with fail
        go_ret2
        refine ⟨key_end (keyR_none ?_), (HB.out.drewN _).below⟩
        rw [X.out, HS.out, D1.out, D2.out, hexes_two (NY.out hy0)]
        rfl
      have hd2 : decide (y < 0) = false := decide_eq_false hy0
      obtain ⟨x, rfl⟩ := Int.eq_ofNat_of_zero_le (by omega : 0 ≤ x)
      obtain ⟨y, rfl⟩ := Int.eq_ofNat_of_zero_le (by omega : 0 ≤ y)
      have HX := Lib.hid (hexbyte x y (by omega) (by omega))
      go_wp2_with (at_builtin; (refine wpList_buf_new rfl _ _ rfl _ _ _ _ _ (HB.out.drewN nq) rfl [UInt8.ofNat (x * 16 + y)] _ ?hcs 1 rfl rfl ?hl ?_); (case hcs => (rw [HX.out]; rfl)); (case hl => omega); intro v3 w3 hb3; (have H3 := Lib.hid hb3); clear hb3)
      go_roundw
      case rel =>
        refine ⟨m + 1, _, by have := JM.out; omega, ?_, ?_, H3.out, ?_⟩
        · have := JM.out
          exact congrArg (Value.int .i64) (by omega)
        · simp only [List.length_append, List.length_cons, List.length_nil]; omega
        · rw [HS.out, D1.out, D2.out, hexes_more (x := x) (y := y) (by simpa using VX.out (by omega)) (by simpa using VY.out (by omega)), Option.map_map, show 2 * (m + 1) + 1 = j + 1 + 1 by have := JM.out; omega]
          congr 1
          funext k
          simp
      case measure => simp [intOf]; omega
    · have E := Lib.hid (show readKey s.data.toList = some bs by
        rw [X.out, HS.out, List.drop_of_length_le (by rw [← Lib.size_eq]; omega)]
        simp [hexes])
      have hcs := buf_string HB.out
      go_wp2_with fail
      go_ret2
      exact ⟨key_end (keyR_some E.out), HB.out.below⟩
end Go.Proofs.YtnoeiaicligmiaaDoor
namespace Go.Proofs.YtnoeiaicligmiaaDoor
set_option linter.unusedVariables false
set_option linter.unusedSimpArgs false
open Go Go.RowKit
theorem str_info : (Tryd.prog.info? 9).map (fun i => (i.zero, i.size, i.bytes)) = some (some (.string ⟨#[]⟩), 1, 16) := by kernel_rfl
def strV (x : List UInt8) : Value := .string ⟨x.toArray⟩
theorem words_snoc_sp (p : List UInt8) : words (p ++ [32]) = words p ++ [[]] := by
  induction p with
  | nil => rfl
  | cons b r ih =>
    rw [List.cons_append]
    by_cases h : b = 32
    · simp only [words, if_pos h, ih, List.cons_append]
    · simp only [words, if_neg h, ih]
      cases hr : words r with
      | nil => exact absurd hr (words_ne r)
      | cons x xs => simp
theorem words_last (b : UInt8) (hb : b ≠ 32) (p : List UInt8) : ∃ a x, words p = a ++ [x] ∧ words (p ++ [b]) = a ++ [x ++ [b]] := by
  induction p with
  | nil => exact ⟨[], [], rfl, by simp [words, hb]⟩
  | cons c r ih =>
    obtain ⟨a, x, h1, h2⟩ := ih
    rw [List.cons_append]
    by_cases h : c = 32
    · exact ⟨[] :: a, x, by simp only [words, if_pos h, h1, List.cons_append], by simp only [words, if_pos h, h2, List.cons_append]⟩
    · cases a with
      | nil => exact ⟨[], c :: x, by simp [words, h, h1], by simp [words, h, h2]⟩
      | cons y ys => exact ⟨(c :: y) :: ys, x, by simp [words, h, h1], by simp [words, h, h2]⟩
theorem take_next (s : ByteArray) (j : Nat) (h : j < s.size) : s.data.toList.take (j + 1) = s.data.toList.take j ++ [s[j]] := by
  rw [List.take_add_one, show s.data.toList[j]? = some s[j] by rw [Array.getElem?_toList, Array.getElem?_eq_getElem (by exact h)]; rfl]
  rfl
theorem new_row (w : World) (e : TypeId) (y : Value) (hy : y.oneCell' = true) : (w.alloc (.cells #[y] e)).ownsRow w.heap.size e 1 (.slice (some ⟨w.heap.size, 0, none⟩) 1 1) 1 [y] :=
  ⟨rfl, .inr ⟨w.heap.size, 1, _, rfl, Nat.le_refl _, (MapKept.heap_alloc w _).1, Nat.le_refl _, by unfold maxLen; omega, rfl, rfl⟩⟩
theorem extract_one (s : ByteArray) (j : Nat) (h : j < s.size) : (s.extract j (j + 1)).data.toList = [s[j]] := by
  have := drop_at s j h
  simp only [ByteArray.data_extract, Array.toList_extract, List.extract_eq_take_drop, this]
  simp
def RWordsRel (w : World) (s : ByteArray) (v i : Value) (wr : World) : Prop :=
  ∃ (j g cap : Nat), j ≤ s.size ∧ i = .int .i64 j ∧ v = .slice (some ⟨g, 0, none⟩) (words (s.data.toList.take j)).length cap ∧ wr.ownsRow w.heap.size 9 1 v (words (s.data.toList.take j)).length ((words (s.data.toList.take j)).map strV) ∧ Below w.heap.size w wr
def RWordsPost (w : World) (ws : List (List UInt8)) (e : Ending) (w' : World) : Prop :=
  ∃ (g cap : Nat), e = .returned (.slice (some ⟨g, 0, none⟩) ws.length cap) ∧ WordsIn w' g 0 ws ∧ w.heap.size ≤ g ∧ g < w'.heap.size ∧ ws.length ≤ cap ∧ Below w.heap.size w w'
theorem row_cap {w : World} {B size n cap g : Nat} {e : TypeId} {xs : List Value} (h : w.ownsRow B e size (.slice (some ⟨g, 0, none⟩) n cap) n xs) : n ≤ cap := by
  rcases h.2 with ⟨h1, _⟩ | ⟨g', cap', cur, h1, _, _, h4, _⟩
  · simp at h1
  · simp only [Value.slice.injEq] at h1
    omega
theorem words_row {w : World} {B g n cap : Nat} {ws : List (List UInt8)} (h : w.ownsRow B 9 1 (.slice (some ⟨g, 0, none⟩) n cap) n (ws.map strV)) : WordsIn w g 0 ws := fun _ => by
  obtain ⟨_, cur, hc⟩ := row_kind h (g := g) rfl
  refine ⟨⟨cur, hc⟩, fun i x hi => ?_⟩
  have := h.cells (g := g) rfl i (strV x) (by simp [hi])
  rwa [addr_at, ← Nat.zero_add i] at this
set_option maxRecDepth 100000 in
set_option maxHeartbeats 2000000 in
theorem rwords_any (s : ByteArray) (w : World) (hs : s.size ≤ 1048576) :
    Calls Tryd.prog 46 #[.string s] w (RWordsPost w (words s.data.toList)) := by
  have KS := Lib.hid (Lib.size_eq s)
  go_enter Tryd.func46, Tryd.ntmps46
  go_wp2_with fail
  go_loopw [3, 4] (fun v i wr => RWordsRel w s v i wr) (fun _ i _ => s.size - (intOf i).toNat)
  case atStart => exact ⟨0, w.heap.size, 1, by omega, rfl, rfl, new_row w _ _ rfl, (Below.refl _ _).alloc (Nat.le_refl _) _⟩
  case round =>
    obtain ⟨j, g, cap, hj, rfl, rfl, hown, hbw⟩ := hrel
    have HO := Lib.hid hown
    have HB := Lib.hid hbw
    have wl := (words_len (s.data.toList.take j)).1
    rw [List.length_take, ← KS.out, Nat.min_eq_left hj] at wl
    have hgz := row_lt hown (g := g) rfl
    clear hown hbw
    by_cases hlt : j < s.size
    · have hj0 : (0 : Int) ≤ j := by omega
      have hj1 : (j : Int) < s.size := by omega
      have TN := Lib.hid (take_next s j hlt)
      by_cases h32 : s[j] = 32
      · have hb : ((s[j].toNat : Int) == 32) = true := by rw [h32]; rfl
        have E := Lib.hid (show words (s.data.toList.take (j + 1)) = words (s.data.toList.take j) ++ [[]] by rw [TN.out, h32, words_snoc_sp])
        clear h32
        go_wp2_with (at_builtin; refine stopAt ?_)
        unfold StopAt
        refine wpList_one_q 24 9 Tryd.underlying24 _ 16 str_info rfl rfl _ _ rfl w.heap.size _ _ _ _ rfl HO.out (.string ⟨#[]⟩) rfl _ rfl (by simp) HB.out.size (by unfold maxLen; omega) (by omega) ?_
        intro a3 c3 w3 ho3 hg3
        have O3 := Lib.hid ho3
        have G3 := Lib.hid hg3
        obtain ⟨g3, cap3, hv3⟩ := row_some ho3 (by omega)
        simp only [Value.slice.injEq, true_and] at hv3
        obtain ⟨rfl, rfl⟩ := hv3
        clear ho3 hg3
        go_wp2_with fail
        go_roundw
        case rel =>
          refine ⟨j + 1, g3, c3, by omega, by go_num, ?_, ?_, HB.out.trans (grown_below G3.out HB.out.size (fun k hk => (row_kind HO.out hk).1))⟩
          · rw [E.out]; simp
          · rw [E.out, List.map_append, List.length_append]
            exact O3.out
        case measure => simp [intOf]; omega
      · have hb : ((s[j].toNat : Int) == 32) = false := by
          rw [beq_eq_false_iff_ne]
          intro h
          exact h32 (UInt8.toNat_inj.1 (by simp; omega))
        obtain ⟨a, x, h1, h2⟩ := words_last s[j] h32 (s.data.toList.take j)
        rw [← TN.out] at h2
        rw [h1] at HO wl ⊢
        simp only [List.length_append, List.length_cons, List.length_nil, Nat.zero_add] at HO wl ⊢
        have c1 := HO.out.cells (g := g) rfl a.length (strV x) (by simp)
        rw [addr_at] at c1
        obtain ⟨_, cur, hcur⟩ := row_kind HO.out (g := g) rfl
        have f1 := blk_frozen hcur a.length
        have e1 : (a.length : Int) + 1 - 1 = a.length := by omega
        have e2 : IntKind.i64.wrap ((a.length : Int) + 1 - 1) = a.length := by rw [e1]; exact IntWalk.i64_in _ (by omega)
        have a0 : (0 : Int) ≤ (a.length : Int) := by omega
        have a1 : (a.length : Int) < (a.length : Int) + 1 := by omega
        have j2 : IntKind.i64.wrap ((j : Int) + 1) = (j : Int) + 1 := IntWalk.i64_in _ (by omega)
        have j3 : (j : Int) + 1 ≤ s.size := by omega
        have j4 : (j : Int) ≤ (j : Int) + 1 := by omega
        have j5 : ((j : Int) + 1).toNat = j + 1 := by omega
        have xz : (ByteArray.mk x.toArray).size ≤ 1048576 := by
          have := (words_len (s.data.toList.take j)).2 x (by rw [h1]; simp)
          rw [List.length_take, ← KS.out, Nat.min_eq_left hj] at this
          simp [ByteArray.size]; omega
        have H1 := Lib.hid h1
        have H2 := Lib.hid h2
        unfold strV at c1
        obtain ⟨S, hS⟩ : ∃ S : ByteArray, S = ⟨x.toArray⟩ := ⟨_, rfl⟩
        rw [← hS] at c1 xz
        have HSS := Lib.hid hS
        clear h1 h2 hS hcur
        go_wp2_with fail
        go_region
        all_goals
          go_wp2_with fail
          go_roundw
          case rel =>
            refine ⟨j + 1, g, cap, by omega, by go_num, ?_, ?_, (HB.out.drew).setCell (p := ⟨g, a.length, none⟩) (row_kind HO.out (g := g) rfl).1 _⟩
            · rw [H2.out]; simp
            · have hr := row_set (w := wr) HO.out a.length (by omega) (.string (S ++ s.extract j (j + 1)))
              have hv : Value.string (S ++ s.extract j (j + 1)) = strV (x ++ [s[j]]) := congrArg Value.string (bytes_is (by rw [toList_app, extract_one s j hlt, HSS.out]))
              rw [hv] at hr ⊢
              rw [H2.out]
              simp at hr ⊢
              exact hr
          case measure => simp [intOf]; omega
    · have hje : j = s.size := by omega
      have TA : s.data.toList.take j = s.data.toList := List.take_of_length_le (by rw [← KS.out]; omega)
      rw [TA] at HO ⊢
      have TT := Lib.hid TA
      clear TA
      go_wp2_with fail
      go_ret
      exact ⟨g, cap, rfl, words_row HO.out, (row_kind HO.out (g := g) rfl).1, hgz, row_cap HO.out, HB.out⟩
end Go.Proofs.YtnoeiaicligmiaaDoor
namespace Go.Proofs.YtnoeiaicligmiaaDoor
set_option linter.unusedVariables false
set_option linter.unusedSimpArgs false
open Go Go.RowKit
theorem linesOf_snoc_nl (p : List UInt8) : linesOf (p ++ [10]) = ((linesOf p).1 ++ [(linesOf p).2], []) := by
  induction p with
  | nil => rfl
  | cons c r ih =>
    rw [List.cons_append]
    by_cases h : c = 10
    · simp only [linesOf, if_pos h, ih, List.cons_append]
    · simp only [linesOf, if_neg h, ih]
      cases hr : (linesOf r).1 with
      | nil => simp
      | cons x xs => simp
theorem linesOf_snoc (b : UInt8) (hb : b ≠ 10) (p : List UInt8) : linesOf (p ++ [b]) = ((linesOf p).1, (linesOf p).2 ++ [b]) := by
  induction p with
  | nil => simp [linesOf, hb]
  | cons c r ih =>
    rw [List.cons_append]
    by_cases h : c = 10
    · simp only [linesOf, if_pos h, ih]
    · simp only [linesOf, if_neg h, ih]
      cases hr : (linesOf r).1 with
      | nil => simp
      | cons x xs => simp
theorem extract_to (s : ByteArray) (k j : Nat) : (s.extract k j).data.toList = (s.data.toList.take j).drop k := by
  simp only [ByteArray.data_extract, Array.toList_extract, List.extract_eq_take_drop, List.drop_take]
def LinesAt (w : World) (A : Option Addr) (L : List (List UInt8)) : Prop :=
  0 < L.length → ∃ b, A = some ⟨b, 0, none⟩ ∧ b < w.heap.size ∧ ∀ (i : Nat) (x : List UInt8), L[i]? = some x → w.cell? ⟨b, i, none⟩ = some (.string ⟨x.toArray⟩)
theorem LinesAt.below {w w' : World} {A : Option Addr} {L : List (List UInt8)} (h : LinesAt w A L) (hb : Below w.heap.size w w') : LinesAt w' A L := fun h0 => by
  obtain ⟨b, hA, hz, hc⟩ := h h0
  exact ⟨b, hA, Nat.lt_of_lt_of_le hz hb.size, fun i x hx => (hb.cell (p := ⟨b, i, none⟩) hz).trans (hc i x hx)⟩
theorem lines_row {w : World} {B n c : Nat} {A : Option Addr} {L : List (List UInt8)} (h : w.ownsRow B 9 1 (.slice A n c) n (L.map strV)) (hn : n = L.length) : LinesAt w A L := fun h0 => by
  obtain ⟨g, cap, hv⟩ := row_some h (by omega)
  simp only [Value.slice.injEq, true_and] at hv
  obtain ⟨rfl, rfl⟩ := hv
  refine ⟨g, rfl, row_lt h rfl, fun i x hx => ?_⟩
  have := h.cells (g := g) rfl i (strV x) (by simp [hx])
  rwa [addr_at] at this
def RLinRel (w : World) (s : ByteArray) (v a i : Value) (wr : World) : Prop :=
  ∃ (j k : Nat) (ls : List (List UInt8)) (A : Option Addr) (c : Nat), j ≤ s.size ∧ k ≤ j ∧ ls.length ≤ k ∧ i = .int .i64 j ∧ a = .int .i64 k ∧ v = .slice A ls.length c ∧ wr.ownsRow w.heap.size 9 1 v ls.length (ls.map strV) ∧ linesOf (s.data.toList.take j) = (ls, (s.data.toList.take j).drop k) ∧ Below w.heap.size w wr
def RLinPost (w : World) (l : List UInt8) (e : Ending) (w' : World) : Prop :=
  ∃ (A : Option Addr) (c : Nat) (L : List (List UInt8)) (whole : Bool), e = .returned (.tuple #[.slice A L.length c, .bool whole]) ∧ ((linesOf l).2 = [] ∧ whole = true ∧ L = (linesOf l).1 ∨ (linesOf l).2 ≠ [] ∧ whole = false ∧ L = (linesOf l).1 ++ [(linesOf l).2]) ∧ LinesAt w' A L ∧ L.length ≤ l.length ∧ Below w.heap.size w w'
set_option maxRecDepth 100000 in
set_option maxHeartbeats 2000000 in
theorem rlines_any (s : ByteArray) (w : World) (hs : s.size ≤ 1048576) :
    Calls Tryd.prog 44 #[.string s] w (RLinPost w s.data.toList) := by
  have KS := Lib.hid (Lib.size_eq s)
  go_enter Tryd.func44, Tryd.ntmps44
  go_wp2_with fail
  go_loopw [2, 4, 5] (fun v a i wr => RLinRel w s v a i wr) (fun _ _ i _ => s.size - (intOf i).toNat)
  case atStart => exact ⟨0, 0, [], none, 0, by omega, by omega, by simp, rfl, rfl, rfl, World.ownsRow_nil _ _ _ _, rfl, Below.refl _ _⟩
  case round =>
    obtain ⟨j, k, ls, A, c, hj, hkj, hls, rfl, rfl, rfl, hown, hlo, hbw⟩ := hrel
    have HO := Lib.hid hown
    have HB := Lib.hid hbw
    have HL := Lib.hid hlo
    clear hown hbw hlo
    by_cases hlt : j < s.size
    · have hj0 : (0 : Int) ≤ j := by omega
      have hj1 : (j : Int) < s.size := by omega
      have hj2 : (j : Int) ≤ s.size := by omega
      have hk0 : (0 : Int) ≤ k := by omega
      have hk1 : (k : Int) ≤ j := by omega
      have TN := Lib.hid (take_next s j hlt)
      have TL : (s.data.toList.take j).length = j := by rw [List.length_take, ← KS.out, Nat.min_eq_left hj]
      have TLH := Lib.hid TL
      clear TL
      by_cases h10 : s[j] = 10
      · have hb : ((s[j].toNat : Int) == 10) = true := by rw [h10]; rfl
        have E := Lib.hid (show linesOf (s.data.toList.take (j + 1)) = (ls ++ [(s.data.toList.take j).drop k], (s.data.toList.take (j + 1)).drop (j + 1)) by
          rw [TN.out, h10, linesOf_snoc_nl, HL.out]
          congr 1
          rw [List.drop_of_length_le (by rw [List.length_append, TLH.out]; simp)])
        have SV := Lib.hid (show Value.string (s.extract k j) = strV ((s.data.toList.take j).drop k) from congrArg Value.string (bytes_is (extract_to s k j)))
        clear h10
        go_wp2_with (at_builtin; refine stopAt ?_)
        unfold StopAt
        refine wpList_one_q 24 9 Tryd.underlying24 _ 16 str_info rfl rfl _ _ rfl w.heap.size _ _ _ _ rfl HO.out (.string (s.extract k j)) rfl _ rfl (by simp) HB.out.size (by unfold maxLen; omega) (by omega) ?_
        intro a3 c3 w3 ho3 hg3
        rw [SV.out] at ho3
        have O3 := Lib.hid ho3
        have G3 := Lib.hid hg3
        clear ho3 hg3
        go_wp2_with fail
        go_roundw
        case rel =>
          refine ⟨j + 1, j + 1, ls ++ [(s.data.toList.take j).drop k], a3, c3, by omega, by omega, by simp; omega, by go_num, by go_num, by simp, ?_, E.out, HB.out.trans (grown_below G3.out HB.out.size (fun q hq => (row_kind HO.out hq).1))⟩
          rw [List.map_append, List.length_append]
          exact O3.out
        case measure => simp [intOf]; omega
      · have hb : ((s[j].toNat : Int) == 10) = false := by
          rw [beq_eq_false_iff_ne]
          intro h
          exact h10 (UInt8.toNat_inj.1 (by simp; omega))
        have E := Lib.hid (show linesOf (s.data.toList.take (j + 1)) = (ls, (s.data.toList.take (j + 1)).drop k) by
          rw [TN.out, linesOf_snoc _ h10, HL.out]
          congr 1
          rw [List.drop_append_of_le_length (by rw [TLH.out]; exact hkj)])
        go_wp2_with fail
        go_roundw
        case rel => exact ⟨j + 1, k, ls, A, c, by omega, by omega, by omega, by go_num, rfl, rfl, HO.out, E.out, HB.out⟩
        case measure => simp [intOf]; omega
    · have hje : j = s.size := by omega
      have hlo := HL.out
      rw [List.take_of_length_le (by rw [← KS.out]; omega)] at hlo
      have HL2 := Lib.hid hlo
      have hk0 : (0 : Int) ≤ k := by omega
      by_cases hks : k < s.size
      · have hk1 : (k : Int) ≤ s.size := by omega
        have hkd : decide ((k : Int) < (s.size : Int)) = true := decide_eq_true (by omega)
        have SV := Lib.hid (show Value.string (s.extract k s.size) = strV (s.data.toList.drop k) from congrArg Value.string (bytes_is (by rw [extract_to, List.take_of_length_le (by rw [← KS.out]; omega)])))
        have NE := Lib.hid (show s.data.toList.drop k ≠ [] by
          intro h
          have := congrArg List.length h
          rw [List.length_drop, ← KS.out] at this
          simp at this
          omega)
        clear hlo
        go_wp2_with (at_builtin; refine stopAt ?_)
        unfold StopAt
        refine wpList_one_q 24 9 Tryd.underlying24 _ 16 str_info rfl rfl _ _ rfl w.heap.size _ _ _ _ rfl HO.out (.string (s.extract k s.size)) rfl _ rfl (by simp) HB.out.size (by unfold maxLen; omega) (by omega) ?_
        intro a3 c3 w3 ho3 hg3
        rw [SV.out] at ho3
        have O3 := Lib.hid ho3
        have G3 := Lib.hid hg3
        clear ho3 hg3
        go_wp2_with fail
        go_ret2
        refine ⟨a3, c3, ls ++ [s.data.toList.drop k], false, by simp, Or.inr ⟨by rw [HL2.out]; exact NE.out, rfl, by rw [HL2.out]⟩, ?_, ?_, HB.out.trans (grown_below G3.out HB.out.size (fun q hq => (row_kind HO.out hq).1))⟩
        · exact lines_row (n := ls.length + 1) (by rw [List.map_append]; exact O3.out) (by simp)
        · rw [List.length_append, ← KS.out]; simp; omega
      · have hkd : decide ((k : Int) < (s.size : Int)) = false := decide_eq_false (by omega)
        clear hlo
        go_wp2_with fail
        go_ret2
        refine ⟨A, c, ls, true, rfl, Or.inl ⟨by rw [HL2.out]; exact List.drop_of_length_le (by rw [← KS.out]; omega), rfl, by rw [HL2.out]⟩, lines_row HO.out rfl, by rw [← KS.out]; omega, HB.out⟩
theorem readInts_nil : readInts [] = some [] := rfl
def RNumRel (w : World) (ws : List (List UInt8)) (v i : Value) (wr : World) : Prop :=
  ∃ (k : Nat) (l : List Int) (a : Option Addr) (c : Nat), k ≤ ws.length ∧ i = .int .i64 k ∧ v = .slice a k c ∧ l.length = k ∧ readInts (ws.take k) = some l ∧ wr.ownsRow w.heap.size 3 1 v k (l.map (.int .i64)) ∧ Below w.heap.size w wr
def RNumPost (w : World) (ws : List (List UInt8)) (e : Ending) (w' : World) : Prop :=
  (∃ (l : List Int) (v : Value), readInts ws = some l ∧ e = .returned (.tuple #[v, .bool true]) ∧ w'.ownsRow w.heap.size 3 1 v l.length (l.map (.int .i64)) ∧ Below w.heap.size w w') ∨
  (readInts ws = none ∧ e = .returned (.tuple #[.slice none 0 0, .bool false]) ∧ Below w.heap.size w w')
set_option maxRecDepth 100000 in
set_option maxHeartbeats 2000000 in
theorem rnums_any (w : World) (b off cap : Nat) (A : Option Addr) (ws : List (List UInt8)) (hA : 0 < ws.length → A = some ⟨b, off, none⟩) (hx : ∀ x ∈ ws, x.length ≤ 1048576) (hw : WordsIn w b off ws) (hn : ws.length ≤ 1048577) :
    Calls Tryd.prog 55 #[.slice A ws.length cap] w (RNumPost w ws) := by
  have HW := Lib.hid hw
  have HA := Lib.hid hA
  have HX := Lib.hid hx
  clear hw hA hx
  go_enter Tryd.func55, Tryd.ntmps55
  go_wp2_with fail
  go_loopw [4, 5] (fun v i wr => RNumRel w ws v i wr) (fun _ i _ => ws.length - (intOf i).toNat)
  case atStart => exact ⟨0, [], none, 0, by omega, rfl, rfl, rfl, rfl, World.ownsRow_nil _ _ _ _, Below.refl _ _⟩
  case round =>
    obtain ⟨k, l, a, c, hk, rfl, rfl, hl, hri, hown, hbw⟩ := hrel
    have HO := Lib.hid hown
    have HB := Lib.hid hbw
    have HR := Lib.hid hri
    have HLL := Lib.hid hl
    clear hown hbw hri hl
    by_cases hlt : k < ws.length
    · obtain ⟨x, hx⟩ : ∃ x, ws[k]? = some x := ⟨_, List.getElem?_eq_getElem hlt⟩
      obtain ⟨⟨cs, hcs⟩, hcell⟩ := HW.out (by omega)
      have hbz : b < w.heap.size := (Array.getElem?_eq_some_iff.1 hcs).1
      have c0 := (HB.out.cell (p := ⟨b, off + k, none⟩) hbz).trans (hcell k x hx)
      have hA := HA.out (by omega)
      subst hA
      have hxz := HX.out x (List.mem_of_getElem? hx)
      have GX := Lib.hid hx
      have RW := Lib.hid (fun W => rwhole_any ⟨x.toArray⟩ W (by simp [ByteArray.size]; omega))
      rw [show (ByteArray.mk x.toArray).data.toList = x by simp] at RW
      clear hcell hcs hx
      have hj0 : (0 : Int) ≤ k := by omega
      have hj1 : (k : Int) < ws.length := by omega
      cases hi : readInt x with
      | none =>
        have X := Lib.hid (readInts_bad GX.out hi)
        rw [intR_none hi] at RW
        clear hi
        go_wp2_with fail
        refine (RW.out _).mono ?_
        rintro e w2 ⟨rfl, rfl⟩
        go_wp2_with fail
        go_ret2
        exact Or.inr ⟨X.out, rfl, HB.out⟩
      | some z =>
        have X := Lib.hid (readInts_take HR.out GX.out hi)
        rw [intR_some hi] at RW
        clear hi
        go_wp2_with fail
        refine (RW.out _).mono ?_
        rintro e w2 ⟨rfl, rfl⟩
        go_wp2_with (at_builtin; refine stopAt ?_)
        unfold StopAt
        refine wpList_one_q 23 3 Tryd.underlying23 _ 8 int_info rfl rfl _ _ rfl w.heap.size _ _ _ _ rfl HO.out (.int .i64 z) rfl _ rfl (by simp) HB.out.size (by unfold maxLen; omega) (by omega) ?_
        intro a3 c3 w3 ho3 hg3
        have O3 := Lib.hid ho3
        have G3 := Lib.hid hg3
        clear ho3 hg3
        go_wp2_with fail
        go_roundw
        case rel =>
          refine ⟨k + 1, l ++ [z], a3, c3, by omega, by go_num, rfl, by rw [List.length_append, HLL.out]; rfl, X.out, ?_, HB.out.trans (grown_below G3.out HB.out.size (fun q hq => (row_kind HO.out hq).1))⟩
          rw [List.map_append]
          exact O3.out
        case measure => simp [intOf]; omega
    · have hke : k = ws.length := by omega
      subst hke
      have hr := HR.out
      rw [List.take_length] at hr
      have HR2 := Lib.hid hr
      clear hr
      go_wp2_with fail
      go_ret2
      exact Or.inl ⟨l, _, HR2.out, rfl, by rw [HLL.out]; exact HO.out, HB.out⟩
end Go.Proofs.YtnoeiaicligmiaaDoor
namespace Go.Proofs.YtnoeiaicligmiaaDoor
set_option linter.unusedVariables false
set_option linter.unusedSimpArgs false
open Go Go.RowKit
theorem readOp_len {ws : List (List UInt8)} (h : ws.length ≠ 5) : readOp ws = none := by
  unfold readOp
  split
  · simp at h
  · rfl
theorem readOp_yes {a b k v x : List UInt8} (h1 : (intR a).2 = true) (h2 : (intR b).2 = true) (h3 : (keyR k).2 = true) (h4 : (natR v).2 = true) (h5 : (natR x).2 = true) : readOp [a, b, k, v, x] = some (opD a b k v x) := by
  obtain ⟨n, hn, hn2⟩ := natR_true h4
  obtain ⟨m, hm, hm2⟩ := natR_true h5
  simp only [readOp, intR_true h1, intR_true h2, keyR_true h3, hn, hm]
  unfold opD
  rw [hn2, hm2]
theorem readOp_no {a b k v x : List UInt8} (h : ¬ ((intR a).2 = true ∧ (intR b).2 = true ∧ (keyR k).2 = true ∧ (natR v).2 = true ∧ (natR x).2 = true)) : readOp [a, b, k, v, x] = none := by
  simp only [readOp]
  cases h1 : (intR a).2 with
  | false => rw [intR_false h1]
  | true =>
    cases h2 : (intR b).2 with
    | false => rw [intR_false h2]; split <;> simp_all
    | true =>
      cases h3 : (keyR k).2 with
      | false => rw [keyR_false h3]; split <;> simp_all
      | true =>
        cases h4 : (natR v).2 with
        | false => rw [natR_false h4]; split <;> simp_all
        | true =>
          cases h5 : (natR x).2 with
          | false => rw [natR_false h5]; split <;> simp_all
          | true => exact absurd ⟨h1, h2, h3, h4, h5⟩ h
theorem Below.setAt {B : Nat} {w W : World} (h : Below B w W) {b j : Nat} (hb : B ≤ b) (u : Value) : Below B w (W.setCell ⟨b, j, none⟩ u) := h.setCell (p := ⟨b, j, none⟩) hb u
def ROpPost (w : World) (ws : List (List UInt8)) (e : Ending) (w' : World) : Prop :=
  ∃ (o : OpD) (b : Bool), e = .returned (.tuple #[.agg #[.int .i64 o.kind, .int .i64 o.handle, .string o.key, .int .u64 o.value, .int .u64 o.expect], .bool b]) ∧ (b = true → readOp ws = some o) ∧ (b = false → readOp ws = none) ∧ Below w.heap.size w w'
set_option maxRecDepth 100000 in
set_option maxHeartbeats 4000000 in
theorem ropn_any (w : World) (b off cap : Nat) (A : Option Addr) (ws : List (List UInt8)) (hA : 0 < ws.length → A = some ⟨b, off, none⟩) (hx : ∀ x ∈ ws, x.length ≤ 1048576) (hw : WordsIn w b off ws) (hn : ws.length ≤ 1048577) :
    Calls Tryd.prog 56 #[.slice A ws.length cap] w (ROpPost w ws) := by
  by_cases h5 : ws.length = 5
  case neg =>
    have X := Lib.hid (readOp_len h5)
    have hb : ((ws.length : Int) != 5) = true := by simp; omega
    clear hA hx hw h5
    go_enter Tryd.func56, Tryd.ntmps56
    go_wp2_with fail
    refine bodyPost_ret (v := .tuple #[.agg #[.int .i64 0, .int .i64 0, .string ⟨#[]⟩, .int .u64 0, .int .u64 0], .bool false]) (by simp [results, Tryd.results56, go_sem]) rfl ⟨⟨0, 0, ⟨#[]⟩, 0, 0⟩, false, rfl, by simp, fun _ => X.out, ?_⟩
    exact (Below.refl _ _).alloc (Nat.le_refl _) _
  match ws, h5 with
  | [x0, x1, x2, x3, x4], _ =>
    obtain ⟨⟨cs, hcs⟩, hcell⟩ := hw (by simp)
    have hbz : b < w.heap.size := (Array.getElem?_eq_some_iff.1 hcs).1
    have KEEP : Hid (∀ W, Below w.heap.size w W → W.cell? ⟨b, off, none⟩ = some (.string ⟨x0.toArray⟩) ∧ W.cell? ⟨b, off + 1, none⟩ = some (.string ⟨x1.toArray⟩) ∧ W.cell? ⟨b, off + 2, none⟩ = some (.string ⟨x2.toArray⟩) ∧ W.cell? ⟨b, off + 3, none⟩ = some (.string ⟨x3.toArray⟩) ∧ W.cell? ⟨b, off + 4, none⟩ = some (.string ⟨x4.toArray⟩)) := fun W hb =>
      ⟨(hb.cell (p := ⟨b, off, none⟩) hbz).trans (hcell 0 x0 rfl), (hb.cell (p := ⟨b, off + 1, none⟩) hbz).trans (hcell 1 x1 rfl), (hb.cell (p := ⟨b, off + 2, none⟩) hbz).trans (hcell 2 x2 rfl), (hb.cell (p := ⟨b, off + 3, none⟩) hbz).trans (hcell 3 x3 rfl), (hb.cell (p := ⟨b, off + 4, none⟩) hbz).trans (hcell 4 x4 rfl)⟩
    have hA := hA (by simp)
    subst hA
    have R0 := Lib.hid (fun W => rwhole_any ⟨x0.toArray⟩ W (by have := hx x0 (by simp); simp [ByteArray.size]; omega))
    have R1 := Lib.hid (fun W => rwhole_any ⟨x1.toArray⟩ W (by have := hx x1 (by simp); simp [ByteArray.size]; omega))
    have R2 := Lib.hid (fun W => rrkey_any ⟨x2.toArray⟩ W (by have := hx x2 (by simp); simp [ByteArray.size]; omega))
    have R3 := Lib.hid (fun W => rnat_any ⟨x3.toArray⟩ W (by have := hx x3 (by simp); simp [ByteArray.size]; omega))
    have R4 := Lib.hid (fun W => rnat_any ⟨x4.toArray⟩ W (by have := hx x4 (by simp); simp [ByteArray.size]; omega))
    rw [show (ByteArray.mk x0.toArray).data.toList = x0 by simp] at R0
    rw [show (ByteArray.mk x1.toArray).data.toList = x1 by simp] at R1
    rw [show (ByteArray.mk x2.toArray).data.toList = x2 by simp] at R2
    rw [show (ByteArray.mk x3.toArray).data.toList = x3 by simp] at R3
    rw [show (ByteArray.mk x4.toArray).data.toList = x4 by simp] at R4
    have Y := Lib.hid (@readOp_yes x0 x1 x2 x3 x4)
    have N := Lib.hid (@readOp_no x0 x1 x2 x3 x4)
    unfold opD at Y
    obtain ⟨n0, b0, e0⟩ : ∃ n0 b0, intR x0 = (n0, b0) := ⟨_, _, rfl⟩
    obtain ⟨n1, b1, e1⟩ : ∃ n1 b1, intR x1 = (n1, b1) := ⟨_, _, rfl⟩
    obtain ⟨n2, b2, e2⟩ : ∃ n2 b2, keyR x2 = (n2, b2) := ⟨_, _, rfl⟩
    obtain ⟨n3, b3, e3⟩ : ∃ n3 b3, natR x3 = (n3, b3) := ⟨_, _, rfl⟩
    obtain ⟨n4, b4, e4⟩ : ∃ n4 b4, natR x4 = (n4, b4) := ⟨_, _, rfl⟩
    rw [e0] at R0 Y N
    rw [e1] at R1 Y N
    rw [e2] at R2 Y N
    rw [e3] at R3 Y N
    rw [e4] at R4 Y N
    simp only at R0 R1 R2 R3 R4
    clear hx hw hcell hcs e0 e1 e2 e3 e4
    simp only [List.length_cons, List.length_nil, Nat.zero_add, Nat.reduceAdd]
    have hcase : b0 = false ∨ (b0 = true ∧ b1 = false) ∨ (b0 = true ∧ b1 = true ∧ b2 = false) ∨ (b0 = true ∧ b1 = true ∧ b2 = true ∧ b3 = false) ∨ (b0 = true ∧ b1 = true ∧ b2 = true ∧ b3 = true ∧ (b4 = true ∨ b4 = false)) := by
      cases b0 <;> cases b1 <;> cases b2 <;> cases b3 <;> cases b4 <;> simp
    have B0 := Lib.hid (Below.refl w.heap.size w)
    rcases hcase with rfl | ⟨rfl, rfl⟩ | ⟨rfl, rfl, rfl⟩ | ⟨rfl, rfl, rfl, rfl⟩ | ⟨rfl, rfl, rfl, rfl, rfl | rfl⟩
    all_goals
      obtain ⟨y0, y1, y2, y3, y4⟩ := KEEP.out _ B0.out
      go_enter Tryd.func56, Tryd.ntmps56
      go_wp2_with fail
      refine (R0.out _).mono ?_
      rintro e w2 ⟨rfl, rfl⟩
      go_wp2_with fail
      refine (R1.out _).mono ?_
      rintro e w2 ⟨rfl, rfl⟩
      go_wp2_with fail
      refine (R2.out _).mono ?_
      rintro e w2 ⟨rfl, hb2⟩
      have BB : Below w.heap.size w w2 := ((Below.refl _ _).alloc (Nat.le_refl _) _).trans (hb2.mono (by simp))
      have hz2 : w.heap.size < w2.heap.size := by have := hb2.size; simp at this; omega
      have hr2 := (hb2.block w.heap.size (by simp)).trans (MapKept.heap_alloc w _).1
      have BH := Lib.hid BB
      have HR := Lib.hid hr2
      clear y0 y1 y2 y3 y4 hb2 BB hr2
      obtain ⟨y0, y1, y2, y3, y4⟩ := KEEP.out _ BH.out
      have q0 := blk_cell HR.out 0
      have q1 := blk_cell HR.out 1
      have q2 := blk_cell HR.out 2
      have q3 := blk_cell HR.out 3
      have q4 := blk_cell HR.out 4
      simp only [List.getElem?_toArray, List.getElem?_cons_succ, List.getElem?_cons_zero] at q0 q1 q2 q3 q4
      have f0 := blk_frozen HR.out 0
      have f1 := blk_frozen HR.out 1
      have f2 := blk_frozen HR.out 2
      have f3 := blk_frozen HR.out 3
      have f4 := blk_frozen HR.out 4
      go_wp2_with fail
      refine (R3.out _).mono ?_
      rintro e w3 ⟨rfl, rfl⟩
      go_wp2_with fail
      refine (R4.out _).mono ?_
      rintro e w3 ⟨rfl, rfl⟩
      go_wp2_with fail
      refine bodyPost_ret (v := .tuple #[.agg #[.int .i64 n0, .int .i64 n1, .string ⟨n2.toArray⟩, .int .u64 n3, .int .u64 n4], .bool _]) (by simp [results, Tryd.results56, go_sem, q0, q1, q2, q3, q4]; rfl) rfl ⟨⟨n0, n1, ⟨n2.toArray⟩, n3, n4⟩, _, rfl, ?_, ?_, ?_⟩
      · first | (intro h; simp at h; done) | (intro _; have hy := Y.out; simpa using hy)
      · first | (intro h; simp at h; done) | (exact fun _ => N.out (by simp))
      · iterate 5 (refine Below.setAt ?_ (Nat.le_refl _) _)
        exact BH.out
end Go.Proofs.YtnoeiaicligmiaaDoor
namespace Go.Proofs.YtnoeiaicligmiaaDoor
set_option linter.unusedVariables false
set_option linter.unusedSimpArgs false
open Go Go.RowKit
def TakePost (B : Nat) (w0 : World) (P : Nat) (r : Option PS) (e : Ending) (w' : World) : Prop :=
  match r with
  | some st' => e = .returned (.tuple #[.bool st'.done, .bool true]) ∧ Box B w0 w' P st'
  | none => ∃ b, e = .returned (.tuple #[.bool b, .bool false]) ∧ Below B w0 w'
theorem TakePost.yes {B : Nat} {w0 : World} {P : Nat} {r : Option PS} {st' : PS} {w' : World} {b : Bool} (hr : r = some st') (hb : st'.done = b) (h : Box B w0 w' P st') : TakePost B w0 P r (.returned (.tuple #[.bool b, .bool true])) w' := by rw [hr, ← hb]; exact ⟨rfl, h⟩
theorem TakePost.no {B : Nat} {w0 : World} {P : Nat} {r : Option PS} {w' : World} {b : Bool} (hr : r = none) (h : Below B w0 w') : TakePost B w0 P r (.returned (.tuple #[.bool b, .bool false])) w' := by rw [hr]; exact ⟨b, rfl, h⟩
theorem rtake_done (B : Nat) (w0 w : World) (P : Nat) (st : PS) (vt vp : Value) (us : List Value) (h : BoxAt B w0 w P st vt vp us) (hd : st.done = true) (i : Int) (ws : List (List UInt8)) (s : Value) :
    Calls Tryd.prog 45 #[.pointer (some ⟨P, 0, none⟩), .int .i64 i, s, .bool true] w (TakePost B w0 P (takeL st ws)) := by
  have T := Lib.hid (takeL_done hd ws)
  have H := Lib.hid h
  clear h hd
  go_enter Tryd.func45, Tryd.ntmps45
  go_wp2_with fail
  go_ret2
  exact TakePost.no T.out H.out.below
set_option maxRecDepth 100000 in
set_option maxHeartbeats 2000000 in
theorem rtake_mask (B : Nat) (w0 w : World) (P : Nat) (st : PS) (vt vp : Value) (us : List Value) (h : BoxAt B w0 w P st vt vp us) (hd : st.done = false) (hm : st.masked = false) (ws : List (List UInt8)) (b off cap : Nat) (hw : WordsAt w b off ws) (hn : ws.length ≤ 1048577) :
    Calls Tryd.prog 45 #[.pointer (some ⟨P, 0, none⟩), .int .i64 0, .slice (some ⟨b, off, none⟩) ws.length cap, .bool false] w (TakePost B w0 P (takeL st ws)) := by
  have y0 : w.cell? ⟨P, 0, none⟩ = some (.int .u64 st.scr.mask) := h.cell 0
  have f0 : w.frozen? ⟨P, 0, none⟩ = false := blk_frozen h.par 0
  by_cases h2 : ws.length = 2
  · obtain ⟨x, y, rfl⟩ : ∃ x y, ws = [x, y] := by
      match ws, h2 with
      | [x, y], _ => exact ⟨x, y, rfl⟩
    have T := Lib.hid (takeL_mask hd hm x y)
    have c0 : w.cell? ⟨b, off, none⟩ = some (.string ⟨x.toArray⟩) := hw.2 0 x rfl
    have c1 := hw.2 1 y rfl
    have hy : (⟨y.toArray⟩ : ByteArray).size ≤ 4611686018427387904 := by
      have := hw.1 y (by simp)
      simp [ByteArray.size]; omega
    have H := Lib.hid h
    have HD := Lib.hid hd
    clear hw h hd hm h2 hn
    by_cases hx : x = maskW
    · subst hx
      rw [if_pos rfl] at T
      have U := Lib.hid (fun W => rnat_any ⟨y.toArray⟩ W hy)
      rw [show (ByteArray.mk y.toArray).data.toList = y by simp] at U
      cases hr : readNat y with
      | none =>
        rw [hr] at T
        rw [natR_none hr] at U
        clear hr
        go_enter Tryd.func45, Tryd.ntmps45
        go_wp2_with fail
        go_quiet (fail)
        go_wp2_with fail
        refine (U.out _).mono ?_
        rintro e w1 ⟨rfl, rfl⟩
        go_wp2_with fail
        go_ret2
        exact TakePost.no T.out (Below.setAt (below_drews H.out.below _) H.out.base _)
      | some v =>
        rw [hr] at T
        rw [natR_some hr] at U
        clear hr
        go_enter Tryd.func45, Tryd.ntmps45
        go_wp2_with fail
        go_quiet (fail)
        go_wp2_with fail
        refine (U.out _).mono ?_
        rintro e w1 ⟨rfl, rfl⟩
        go_wp2_with fail
        go_ret2
        refine TakePost.yes T.out HD.out ⟨vt, vp, us, H.out.put rfl rfl ?_ ?_ ?_⟩
        · exact heap_set (w := w.drewN _) (j := 0) H.out.par _
        · intro k hk
          exact Below.heap_setCell (w.drewN _) _ _ _ hk
        · exact Below.setAt (below_drews (Below.refl _ _) _) H.out.base _
    · rw [if_neg hx] at T
      have s1 : (x == [109, 97, 115, 107]) = false := by simpa [maskW] using hx
      go_enter Tryd.func45, Tryd.ntmps45
      go_wp2_with fail
      go_quiet (fail)
      go_wp2_with fail
      go_ret2
      exact TakePost.no T.out (Below.setAt (below_drews H.out.below _) H.out.base _)
  · have T := Lib.hid (takeL_mask2 hd hm ws h2)
    have hb2 : ((ws.length : Int) == 2) = false := by simp; omega
    have H := Lib.hid h
    clear h hd hm hw h2
    go_enter Tryd.func45, Tryd.ntmps45
    go_wp2_with fail
    go_quiet (fail)
    go_wp2_with fail
    go_ret2
    exact TakePost.no T.out (Below.setAt (below_drews H.out.below _) H.out.base _)
set_option maxRecDepth 100000 in
set_option maxHeartbeats 2000000 in
theorem rtake_thread (B : Nat) (w0 w : World) (P : Nat) (st : PS) (vt vp : Value) (us : List Value) (h : BoxAt B w0 w P st vt vp us) (hd : st.done = false) (hm : st.masked = true) (i : Int) (hi : (i == 0) = false) (b off cap : Nat) (hw : WordsAt w b off [threadW]) (ht : st.scr.threads.length ≤ 1048576) :
    Calls Tryd.prog 45 #[.pointer (some ⟨P, 0, none⟩), .int .i64 i, .slice (some ⟨b, off, none⟩) 1 cap, .bool false] w (TakePost B w0 P (takeL st [threadW])) := by
  have T := Lib.hid (takeL_thread hd hm [])
  rw [if_pos (show [threadW].length = 1 from rfl)] at T
  have c0 : w.cell? ⟨b, off, none⟩ = some (.string ⟨threadW.toArray⟩) := hw.2 0 threadW rfl
  obtain ⟨a1, c1, hv⟩ := row_form h.thr
  subst hv
  have y1 : w.cell? ⟨P, 1, none⟩ = some (.slice a1 us.length c1) := h.cell 1
  have f1 : w.frozen? ⟨P, 1, none⟩ = false := blk_frozen h.par 1
  have hP := h.lt
  have hul : us.length ≤ 1048576 := by rw [h.hus]; exact ht
  have H := Lib.hid h
  have HD := Lib.hid hd
  clear hw h hd hm
  go_enter Tryd.func45, Tryd.ntmps45
  go_wp2_with (at_builtin; refine stopAt ?_)
  unfold StopAt
  refine wpList_one_q 30 49 Tryd.underlying30 _ 24 ops_info rfl rfl _ _ rfl B _ _ _ _ rfl H.out.thr _ rfl _ rfl rfl H.out.size (by unfold maxLen; omega) (by omega) ?_
  intro a6 c6 w6 ho6 hg6
  have G6 := Lib.hid (H.out.thread _ hg6 ho6)
  have z1 := (World.cell?_of_block (a := ⟨P, 1, none⟩) (grown_block hg6 hP (row_ne H.out.thr H.out.par (by decide)))).trans y1
  have zf := (World.frozen?_of_block (a := ⟨P, 1, none⟩) (grown_block hg6 hP (row_ne H.out.thr H.out.par (by decide)))).trans f1
  clear ho6 hg6
  go_wp2_with fail
  go_ret2
  exact TakePost.yes T.out HD.out ⟨_, _, _, G6.out⟩
set_option maxRecDepth 100000 in
set_option maxHeartbeats 2000000 in
theorem rtake_picks (B : Nat) (w0 w : World) (P : Nat) (st : PS) (vt vp : Value) (us : List Value) (h : BoxAt B w0 w P st vt vp us) (hd : st.done = false) (hm : st.masked = true) (i : Int) (hi : (i == 0) = false) (r : List (List UInt8)) (b cap : Nat) (hcap : r.length + 1 ≤ cap) (hx : ∀ x ∈ (picksW :: r), x.length ≤ 1048576) (hw : WordsIn w b 0 (picksW :: r)) (hn : r.length ≤ 1048576) :
    Calls Tryd.prog 45 #[.pointer (some ⟨P, 0, none⟩), .int .i64 i, .slice (some ⟨b, 0, none⟩) (picksW :: r).length cap, .bool false] w (TakePost B w0 P (takeL st (picksW :: r))) := by
  have T := Lib.hid (takeL_picks hd hm r)
  have c0 : w.cell? ⟨b, 0, none⟩ = some (.string ⟨picksW.toArray⟩) := (hw (by simp)).2 0 picksW rfl
  have y2 : w.cell? ⟨P, 2, none⟩ = some vp := h.cell 2
  have f2 : w.frozen? ⟨P, 2, none⟩ = false := blk_frozen h.par 2
  have hP := h.lt
  have RN := Lib.hid (fun (c : Nat) (A : Option Addr) (hA : 0 < r.length → A = some ⟨b, 1, none⟩) => rnums_any w b 1 c A r hA (fun x hx' => hx x (by simp [hx'])) (words_tail hw) (by omega))
  have H := Lib.hid h
  have HD := Lib.hid hd
  have hc0 : (1 : Int) ≤ cap := by omega
  have hc1 : ((r.length : Int) + 1) ≤ cap := by omega
  clear hw h hd hm hx
  simp only [List.length_cons]
  by_cases hc1 : cap = 1
  · subst hc1
    obtain rfl : r = [] := List.eq_nil_of_length_eq_zero (by omega)
    have R := Lib.hid (RN.out 0 (some ⟨b, 0, none⟩) (fun h0 => by simp at h0))
    simp only [List.length_nil] at R ⊢
    go_enter Tryd.func45, Tryd.ntmps45
    go_wp2_with fail
    with_reducible refine R.out.mono ?_
    rintro e w1 (⟨l, v, hr, rfl, hown, hb⟩ | ⟨hr, rfl, hb⟩)
    · obtain ⟨av, cv, rfl⟩ := row_form hown
      have H1 := Lib.hid ((H.out.above hb).repick l (row_le hown H.out.size))
      have TT := Lib.hid (T.out.trans (picksR_some hr))
      have z2 := (hb.cell (p := ⟨P, 2, none⟩) hP).trans y2
      have zf := (hb.frozen (p := ⟨P, 2, none⟩) hP).trans f2
      have hz := hb.size
      clear hown hb hr
      go_wp2_with fail
      go_ret2
      have q := H1.out
      exact TakePost.yes TT.out rfl ⟨_, _, _, ⟨q.base, q.par, q.thr, q.hus, q.ops, q.dist, q.pks, q.below, q.size⟩⟩
    · have TT := Lib.hid (T.out.trans (picksR_none hr))
      have z2 := (hb.cell (p := ⟨P, 2, none⟩) hP).trans y2
      have zf := (hb.frozen (p := ⟨P, 2, none⟩) hP).trans f2
      have hz := hb.size
      have HB := Lib.hid (H.out.below.trans (hb.mono H.out.size))
      clear hb hr
      go_wp2_with fail
      go_ret2
      exact TakePost.no TT.out (Below.setAt HB.out H.out.base _)
  · obtain ⟨m, rfl⟩ : ∃ m, cap = m + 2 := ⟨cap - 2, by omega⟩
    have hc2 : (r.length : Int) ≤ (m : Int) + 1 := by omega
    have R := Lib.hid (RN.out (m + 1) (some ⟨b, 1, none⟩) (fun h0 => rfl))
    go_enter Tryd.func45, Tryd.ntmps45
    go_wp2_with fail
    all_goals
      with_reducible refine R.out.mono ?_
      rintro e w1 (⟨l, v, hr, rfl, hown, hb⟩ | ⟨hr, rfl, hb⟩)
      · obtain ⟨av, cv, rfl⟩ := row_form hown
        have H1 := Lib.hid ((H.out.above hb).repick l (row_le hown H.out.size))
        have TT := Lib.hid (T.out.trans (picksR_some hr))
        have z2 := (hb.cell (p := ⟨P, 2, none⟩) hP).trans y2
        have zf := (hb.frozen (p := ⟨P, 2, none⟩) hP).trans f2
        have hz := hb.size
        clear hown hb hr
        go_wp2_with fail
        go_ret2
        have q := H1.out
        exact TakePost.yes TT.out rfl ⟨_, _, _, ⟨q.base, q.par, q.thr, q.hus, q.ops, q.dist, q.pks, q.below, q.size⟩⟩
      · have TT := Lib.hid (T.out.trans (picksR_none hr))
        have z2 := (hb.cell (p := ⟨P, 2, none⟩) hP).trans y2
        have zf := (hb.frozen (p := ⟨P, 2, none⟩) hP).trans f2
        have hz := hb.size
        have HB := Lib.hid (H.out.below.trans (hb.mono H.out.size))
        clear hb hr
        go_wp2_with fail
        go_ret2
        exact TakePost.no TT.out (Below.setAt HB.out H.out.base _)
end Go.Proofs.YtnoeiaicligmiaaDoor
