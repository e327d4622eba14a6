/- The walk of the reference's key. The walk of the reference's line. The walk of the reference's Format. A region that draws its order, walked once, over a class of worlds: the operations read, the callees make memory. The walk of the law's formats. The walk of ScriptFormats. -/
import Derived.Test.YtnoeiaicligmiaaDoorSWho
import Derived.Test.YtnoeiaicligmiaaDoorSFmt
import Derived.Test.YtnoeiaicligmiaaDoorSMem
import Derived.BigQuiet
import Derived.Deep.Quiet
import Derived.Test.YtnoeiaicligmiaaDoorSChk
import Derived.Test.YtnoeiaicligmiaaDoorSAw
import Derived.Test.YtnoeiaicligmiaaDoorSRet
import Derived.Test.YtnoeiaicligmiaaDoorSOpen
namespace Go.Proofs.YtnoeiaicligmiaaDoor
set_option linter.unusedVariables false
set_option linter.unusedSimpArgs false
open Go Go.RowKit
def hexC : ByteArray := ⟨#[48, 49, 50, 51, 52, 53, 54, 55, 56, 57, 97, 98, 99, 100, 101, 102]⟩
theorem slice_hex (n : Nat) (h : n < 16) (W : World) : (Instr.slice 9 (.string ⟨#[48, 49, 50, 51, 52, 53, 54, 55, 56, 57, 97, 98, 99, 100, 101, 102]⟩) (some (.int .u8 n)) (some (.int .u8 ((n : Int) + 1))) none).run Tryd.prog W = .ok (.string ⟨#[hexD n]⟩) W := by
  rcases (by omega : n = 0 ∨ n = 1 ∨ n = 2 ∨ n = 3 ∨ n = 4 ∨ n = 5 ∨ n = 6 ∨ n = 7 ∨ n = 8 ∨ n = 9 ∨ n = 10 ∨ n = 11 ∨ n = 12 ∨ n = 13 ∨ n = 14 ∨ n = 15) with rfl | rfl | rfl | rfl | rfl | rfl | rfl | rfl | rfl | rfl | rfl | rfl | rfl | rfl | rfl | rfl <;> kernel_rfl
theorem app_two (a b : UInt8) : (ByteArray.mk #[a]) ++ ⟨#[b]⟩ = ⟨#[a, b]⟩ := rfl
def keyP (k : List UInt8) (j : Nat) : List UInt8 := 120 :: (k.take j).flatMap (fun b => [hexD (b.toNat / 16), hexD (b.toNat % 16)])
theorem keyP_len (k : List UInt8) (j : Nat) (h : j ≤ k.length) : (keyP k j).length = 2 * j + 1 := by
  have : ∀ l : List UInt8, (l.flatMap (fun b => [hexD (b.toNat / 16), hexD (b.toNat % 16)])).length = 2 * l.length := by
    intro l
    induction l with
    | nil => rfl
    | cons x r ih => simp only [List.flatMap_cons, List.length_append, List.length_cons, List.length_nil, ih]; omega
  unfold keyP
  rw [List.length_cons, this, List.length_take, Nat.min_eq_left h]
theorem keyP_succ (k : List UInt8) (j : Nat) (b : UInt8) (h : k[j]? = some b) : keyP k (j + 1) = keyP k j ++ [hexD (b.toNat / 16), hexD (b.toNat % 16)] := by
  unfold keyP
  have e : k.take (j + 1) = k.take j ++ [b] := by rw [List.take_add_one, h]; rfl
  rw [e, List.flatMap_append]
  rfl
theorem keyP_all (k : List UInt8) : keyP k k.length = keyT k := by unfold keyP keyT; rw [List.take_length]
def KeyLp (w : World) (k : List UInt8) (s i : Value) (wr : World) : Prop :=
  ∃ (j : Nat) (S : ByteArray), j ≤ k.length ∧ i = .int .i64 j ∧ s = .string S ∧ S.data.toList = keyP k j ∧ FewDraws w wr
set_option maxHeartbeats 2000000 in
theorem rkey_any (key : ByteArray) (hk : key.size ≤ 140737488355328) (w : World) : Calls Tryd.prog 42 #[.string key] w fun e w' => e = .returned (.string ⟨(keyT key.data.toList).toArray⟩) ∧ FewDraws w w' := by
  have hks : key.size = key.data.toList.length := Lib.size_eq key
  have KS := Lib.hid hks
  clear hks
  go_enter Tryd.func42, Tryd.ntmps42
  go_wp2_with fail
  go_loopw [3, 4] (fun s i wr => KeyLp w key.data.toList s i wr) (fun _ i _ => key.size - (intOf i).toNat)
  case atStart => exact ⟨0, _, by omega, rfl, rfl, rfl, FewDraws.refl w⟩
  case round =>
    obtain ⟨j, S, hj, rfl, rfl, hS, hf⟩ := hrel
    have HF := Lib.hid hf
    have HS := Lib.hid hS
    have hsz : S.size ≤ 281474976710657 := by rw [Lib.size_eq, hS, keyP_len _ _ hj]; have := KS.out; omega
    have hjk : j ≤ key.size := by rw [KS.out]; exact hj
    clear hf hS hj
    by_cases hlt : j < key.size
    · have hj0 : (0 : Int) ≤ j := by omega
      have hj1 : (j : Int) < key.size := by omega
      have hb := UInt8.toNat_lt key[j]
      have a1 := and_15 key[j].toNat hb
      have w1 : IntKind.u8.wrap ((key[j].toNat : Int) / 16 + 1) = (key[j].toNat : Int) / 16 + 1 := by rw [IntKind.wrap_u8]; omega
      have w2 : IntKind.u8.wrap ((key[j].toNat : Int) % 16 + 1) = (key[j].toNat : Int) % 16 + 1 := by rw [IntKind.wrap_u8]; omega
      have s1 := slice_hex (key[j].toNat / 16) (by omega)
      have s2 := slice_hex (key[j].toNat % 16) (by omega)
      simp only [Int.natCast_ediv, Int.natCast_emod, Int.cast_ofNat_Int] at s1 s2
      have c1 := app_two (hexD (key[j].toNat / 16)) (hexD (key[j].toNat % 16))
      go_wp2_with fail
      go_quiet (fail)
      go_wp2_with fail
      go_roundw
      case rel =>
        refine ⟨j + 1, _, by rw [← KS.out]; omega, by go_num, rfl, ?_, HF.out.drewN _⟩
        rw [ByteArray.data_append, Array.toList_append, HS.out]
        exact (keyP_succ _ _ _ (by rw [Array.getElem?_toList, Array.getElem?_eq_getElem (by exact hlt)]; rfl)).symm
      case measure => simp [intOf]; omega
    · have hje : j = key.size := by omega
      have KA := Lib.hid (keyP_all key.data.toList)
      subst hje
      go_wp2_with fail
      go_ret
      refine ⟨?_, HF.out⟩
      have hS := HS.out
      rw [KS.out, KA.out] at hS
      rw [← hS, show (⟨S.data.toList.toArray⟩ : ByteArray) = S by cases S; simp]
      rfl
end Go.Proofs.YtnoeiaicligmiaaDoor
namespace Go.Proofs.YtnoeiaicligmiaaDoor
set_option linter.unusedVariables false
set_option linter.unusedSimpArgs false
open Go Go.RowKit
theorem bytes_of (l : List UInt8) : ∃ A : ByteArray, A = ⟨l.toArray⟩ ∧ A.data.toList = l ∧ A.size = l.length := ⟨_, rfl, by simp, by simp [ByteArray.size]⟩
theorem toList_app (a b : ByteArray) : (a ++ b).data.toList = a.data.toList ++ b.data.toList := by rw [ByteArray.data_append, Array.toList_append]
theorem bytes_is {A : ByteArray} {l : List UInt8} (h : A.data.toList = l) : A = ⟨l.toArray⟩ := by subst h; cases A; simp
set_option maxHeartbeats 2000000 in
theorem rline_any (o : OpD) (ho : OpOk o) (hk : o.key.size ≤ 140737488355328) (w : World) : Calls Tryd.prog 25 #[.agg #[.int .i64 o.kind, .int .i64 o.handle, .string o.key, .int .u64 o.value, .int .u64 o.expect]] w fun e w' => e = .returned (.string ⟨(lineT o).toArray⟩) ∧ Below w.heap.size w w' := by
  obtain ⟨k0, k1, h0, h1, v0, v1, e0, e1⟩ := ho
  obtain ⟨kind, handle, key, value, expect⟩ := o
  simp only at *
  obtain ⟨A1, a1, b1, z1⟩ := bytes_of (Lib.itoa kind)
  obtain ⟨A2, a2, b2, z2⟩ := bytes_of (Lib.itoa handle)
  obtain ⟨A3, a3, b3, z3⟩ := bytes_of (keyT key.data.toList)
  obtain ⟨A4, a4, b4, z4⟩ := bytes_of (Lib.decDigits value.toNat)
  obtain ⟨A5, a5, b5, z5⟩ := bytes_of (Lib.decDigits expect.toNat)
  have l1 := itoa_len kind k0 k1
  have l2 := itoa_len handle h0 h1
  have l4 := dec_len 19 value.toNat (by omega)
  have l5 := dec_len 19 expect.toNat (by omega)
  have l3 : (keyT key.data.toList).length = 2 * key.size + 1 := by rw [← keyP_all, keyP_len _ _ (Nat.le_refl _), Lib.size_eq key]
  rw [← z1] at l1
  rw [← z2] at l2
  rw [← z3] at l3
  rw [← z4] at l4
  rw [← z5] at l5
  have C1 : ∀ W, Calls Tryd.prog 26 #[.int .i64 kind] W fun e w' => e = .returned (.string A1) ∧ w' = W := fun W => (whole_any kind k0 k1 W).mono fun e w' ⟨he, hw⟩ => ⟨by rw [he, a1], hw.symm⟩
  have C2 : ∀ W, Calls Tryd.prog 26 #[.int .i64 handle] W fun e w' => e = .returned (.string A2) ∧ w' = W := fun W => (whole_any handle h0 h1 W).mono fun e w' ⟨he, hw⟩ => ⟨by rw [he, a2], hw.symm⟩
  have C3 : ∀ W, Calls Tryd.prog 42 #[.string key] W fun e w' => e = .returned (.string A3) ∧ ∃ m, w' = W.drewN m := fun W => (rkey_any key hk W).mono fun e w' ⟨he, hw⟩ => ⟨by rw [he, a3], hw⟩
  have C4 : ∀ W, Calls Tryd.prog 24 #[.int .u64 value] W fun e w' => e = .returned (.string A4) ∧ w' = W := fun W => by
    have := natural_any value.toNat (by omega) W
    rw [Int.toNat_of_nonneg v0] at this
    exact this.mono fun e w' ⟨he, hw⟩ => ⟨by rw [he, a4], hw.symm⟩
  have C5 : ∀ W, Calls Tryd.prog 24 #[.int .u64 expect] W fun e w' => e = .returned (.string A5) ∧ w' = W := fun W => by
    have := natural_any expect.toNat (by omega) W
    rw [Int.toNat_of_nonneg e0] at this
    exact this.mono fun e w' ⟨he, hw⟩ => ⟨by rw [he, a5], hw.symm⟩
  have FIN : Hid ((lineT ⟨kind, handle, key, value, expect⟩) = A1.data.toList ++ [32] ++ A2.data.toList ++ [32] ++ A3.data.toList ++ [32] ++ A4.data.toList ++ [32] ++ A5.data.toList ++ [10]) := by
    show _ = _
    rw [b1, b2, b3, b4, b5]
    simp [lineT, natT]
  have D1 := Lib.hid C1
  have D2 := Lib.hid C2
  have D3 := Lib.hid C3
  have D4 := Lib.hid C4
  have D5 := Lib.hid C5
  clear C1 C2 C3 C4 C5 a1 a2 a3 a4 a5 b1 b2 b3 b4 b5 z1 z2 z3 z4 z5 k0 k1 h0 h1 v0 v1 e0 e1
  go_enter Tryd.func25, Tryd.ntmps25
  go_wp2_with fail
  go_quiet ((first | (go_at_call 26; with_reducible exact Calls.quiet_of_same (D1.out _)) | (go_at_call 26; with_reducible exact Calls.quiet_of_same (D2.out _)) | (go_at_call 42; with_reducible exact Calls.quiet_of (D3.out _)) | (go_at_call 24; with_reducible exact Calls.quiet_of_same (D4.out _)) | (go_at_call 24; with_reducible exact Calls.quiet_of_same (D5.out _))))
  go_wp2_with fail
  go_ret
  refine ⟨?_, ?_⟩
  · rw [FIN.out]
    refine congrArg Ending.returned (congrArg Value.string (bytes_is ?_))
    simp only [toList_app]
  · exact ⟨rfl, rfl, rfl, ((Below.refl _ _).alloc (Nat.le_refl _) _).size, ((Below.refl _ _).alloc (Nat.le_refl _) _).block⟩
end Go.Proofs.YtnoeiaicligmiaaDoor
namespace Go.Proofs.YtnoeiaicligmiaaDoor
set_option linter.unusedVariables false
set_option linter.unusedSimpArgs false
open Go Go.RowKit
def RThr (w1 : World) (pre : List UInt8) (ts : List (List OpD)) (v i : Value) (wr : World) : Prop :=
  ∃ (k : Nat) (S : ByteArray), k ≤ ts.length ∧ i = .int .i64 k ∧ v = .string S ∧ S.data.toList = pre ++ (ts.take k).flatMap threadT ∧ S.size ≤ 40 + 4503599627370503 * k ∧ Below w1.heap.size w1 wr
def RLine (w1 : World) (l : List UInt8) (t : List OpD) (M : Nat) (v i : Value) (wr : World) : Prop :=
  ∃ (j : Nat) (S : ByteArray), j ≤ t.length ∧ i = .int .i64 j ∧ v = .string S ∧ S.data.toList = l ++ (t.take j).flatMap lineT ∧ S.size ≤ M + 281474976710656 * j ∧ Below w1.heap.size w1 wr
def RPick (w1 : World) (l : List UInt8) (ps : List Int) (v i : Value) (wr : World) : Prop :=
  ∃ (j : Nat) (S : ByteArray), j ≤ ps.length ∧ i = .int .i64 j ∧ v = .string S ∧ S.data.toList = l ++ (ps.take j).flatMap (fun p => 32 :: Lib.itoa p) ∧ S.size ≤ 36028797018964100 + 22 * j ∧ Below w1.heap.size w1 wr
theorem sz_list {S : ByteArray} {l : List UInt8} (h : S.data.toList = l) : S.size = l.length := by rw [Lib.size_eq, h]
theorem check_picks {s : ScrD} (h : checkS s = 0) : s.picks.length ≤ 67108864 ∧ ∀ t ∈ s.threads, t.length ≤ 16 := by
  unfold checkS at h
  by_cases h1 : 8 < s.threads.length ∨ 67108864 < s.picks.length
  · rw [if_pos h1] at h; omega
  · rw [if_neg h1] at h
    refine ⟨by omega, fun t ht => ?_⟩
    by_cases h2 : 16 < t.length
    · rw [if_pos (List.any_eq_true.2 ⟨t, ht, by simpa using h2⟩)] at h
      omega
    · omega
set_option maxRecDepth 100000 in
set_option maxHeartbeats 4000000 in
theorem rformat_bads (w : World) (A D : Option Addr) (c d : Nat) (s : ScrD) (h : ScrAt w A D s) (hc : checkS s = 3) :
    Calls Tryd.prog 9 #[scrV s.mask A s.threads.length c D s.picks.length d] w fun e w' => e = .returned (.tuple #[.string ⟨(formatS s).1.toArray⟩, .int .i64 (formatS s).2]) ∧ Below w.heap.size w w' := by
  have F0 := Lib.hid (format_bad s (by omega))
  have CH := Lib.hid (rcheck_any (w.alloc (.cells #[.int .u64 s.mask, .slice A s.threads.length c, .slice D s.picks.length d] 32)) A D c d s (h.below ((Below.refl _ _).alloc (Nat.le_refl _) _)))
  have hl0 := h.l0
  have hl1 := h.l1
  have HC := Lib.hid hc
  clear h hc
  simp only [scrV]
  go_enter Tryd.func9, Tryd.ntmps9
  go_wp2_with fail
  refine CH.out.mono ?_
  rintro e w1 ⟨rfl, hb⟩
  rw [HC.out]
  have HB := Lib.hid hb
  clear hb
  go_wp2_with fail
  go_ret2
  exact ⟨fmt_end F0.out, ((Below.refl _ _).alloc (Nat.le_refl _) _).trans (HB.out.mono (by simp))⟩
set_option maxRecDepth 100000 in
set_option maxHeartbeats 4000000 in
theorem rformat_good (w : World) (A D : Option Addr) (c d : Nat) (s : ScrD) (h : ScrAt w A D s) (ok : ScrOk s) (kf : ∀ t ∈ s.threads, ∀ o ∈ t, o.key.size ≤ 140737488351232) (hc : checkS s = 0) :
    Calls Tryd.prog 9 #[scrV s.mask A s.threads.length c D s.picks.length d] w fun e w' => e = .returned (.tuple #[.string ⟨(formatS s).1.toArray⟩, .int .i64 (formatS s).2]) ∧ Below w.heap.size w w' := by
  have F1 := Lib.hid (format_long s)
  have F2 := Lib.hid (format_fine s hc)
  have TX := Lib.hid (textS_eq s)
  have CH := Lib.hid (rcheck_any (w.alloc (.cells #[.int .u64 s.mask, .slice A s.threads.length c, .slice D s.picks.length d] 32)) A D c d s (h.below ((Below.refl _ _).alloc (Nat.le_refl _) _)))
  have SC0 := Lib.hid (h.below ((Below.refl _ _).alloc (Nat.le_refl _) (.cells #[.int .u64 s.mask, .slice A s.threads.length c, .slice D s.picks.length d] 32)))
  have hl0 := h.l0
  have hl1 := h.l1
  have hl8 := check_len hc
  have hlp := (check_picks hc).1
  have HL16 := Lib.hid (check_picks hc).2
  have KF := Lib.hid kf
  have OK := Lib.hid ok
  have HC := Lib.hid hc
  have nl := nat_len s.mask ok.m1
  obtain ⟨NA, na1, na2, na3⟩ := bytes_of (natT s.mask)
  rw [← na3] at nl
  have NM : ∀ W, Calls Tryd.prog 24 #[.int .u64 s.mask] W fun e w' => e = .returned (.string NA) ∧ W = w' := fun W => by
    have := natural_any s.mask.toNat (by have := ok.m0; have := ok.m1; omega) W
    rw [Int.toNat_of_nonneg ok.m0] at this
    exact this.mono fun e w' ⟨he, hw⟩ => ⟨by rw [he, na1]; rfl, hw⟩
  have NN := Lib.hid NM
  have N2 := Lib.hid na2
  clear h hc ok kf NM na1 na2 na3
  simp only [scrV]
  go_enter Tryd.func9, Tryd.ntmps9
  go_wp2_with fail
  refine CH.out.mono ?_
  rintro e w1 ⟨rfl, hb⟩
  rw [HC.out]
  have hz : w.heap.size < w1.heap.size := by
    have := hb.size
    simp at this
    omega
  have BX := Lib.hid (scr_box hb (by simp))
  have bx := scr_box hb (by simp)
  have SC := Lib.hid (SC0.out.below hb)
  have HB0 := Lib.hid hb
  have FIN := Lib.hid (fun wr (h : Below w1.heap.size w1 wr) => (((Below.refl _ w).alloc (Nat.le_refl _) _).trans (hb.mono (by simp))).trans (h.mono (Nat.le_of_lt hz)))
  clear hb CH SC0
  go_wp2_with fail
  refine (NN.out _).mono ?_
  rintro e w' ⟨rfl, rfl⟩
  go_wp2_with fail
  obtain ⟨pre, hpre⟩ : ∃ pre, pre = preT s.mask := ⟨_, rfl⟩
  obtain ⟨PA, hPA⟩ : ∃ PA : ByteArray, PA = (⟨#[109, 97, 115, 107, 32]⟩ : ByteArray) ++ NA ++ ⟨#[10]⟩ := ⟨_, rfl⟩
  have hPL : PA.data.toList = pre := by rw [hPA, hpre, toList_app, toList_app, N2.out]; rfl
  have hPS : PA.size ≤ 40 := by rw [hPA, ByteArray.size_append, ByteArray.size_append]; show 5 + NA.size + 1 ≤ 40; omega
  rw [← hpre] at TX
  rw [← hPA]
  have PL := Lib.hid hPL
  clear hPL hPA hpre NN N2 nl
  obtain ⟨m, ts, ps⟩ := s
  simp only at *
  have ATS : Hid (RThr w1 pre ts (.string PA) (.int .i64 0) w1) := ⟨0, PA, by omega, rfl, rfl, by simpa using PL.out, by omega, Below.refl _ _⟩
  clear hPS
  go_loopw [5, 6] (fun v i wr => RThr w1 pre ts v i wr) (fun _ i _ => ts.length - (intOf i).toNat)
  case atStart => exact ATS.out
  case round =>
    clear ATS bx
    obtain ⟨k, S, hk, rfl, rfl, hS, hsz, hbr⟩ := hrel
    have HS := Lib.hid hS
    have HR := Lib.hid hbr
    have x1 := (hbr.cell (p := ⟨w.heap.size, 1, none⟩) hz).trans (BX.out 1)
    have x2 := (hbr.cell (p := ⟨w.heap.size, 2, none⟩) hz).trans (BX.out 2)
    simp only [List.getElem?_toArray, List.getElem?_cons_succ, List.getElem?_cons_zero] at x1 x2
    clear hbr hS
    by_cases hlt : k < ts.length
    · obtain ⟨t, ht⟩ : ∃ t, ts[k]? = some t := ⟨_, List.getElem?_eq_getElem hlt⟩
      obtain ⟨b, off, u, cc, rfl, hbz, hcell0, hops⟩ := thr_cell3 SC.out.thr ht
      have HC0 := Lib.hid (show ∀ W, Below w1.heap.size w1 W → W.cell? ⟨b, off + k, none⟩ = some (.slice u t.length cc) from fun W hW => (hW.cell (p := ⟨b, off + k, none⟩) hbz).trans hcell0)
      clear hcell0
      have ht2 := (SC.out).l2 t (List.mem_of_getElem? ht)
      have ht16 := HL16.out t (List.mem_of_getElem? ht)
      have TT := Lib.hid ht
      have OPS := Lib.hid hops
      clear ht hops
      have hj0 : (0 : Int) ≤ k := by omega
      have hj1 : (k : Int) < ts.length := by omega
      have hszz : S.size ≤ 36028797018964064 := by omega
      go_wp2_with fail
      obtain ⟨S4, e4⟩ : ∃ S4 : ByteArray, S4 = S ++ ⟨#[116, 104, 114, 101, 97, 100, 10]⟩ := ⟨_, rfl⟩
      obtain ⟨l4, hl4⟩ : ∃ l4, l4 = pre ++ (ts.take k).flatMap threadT ++ [116, 104, 114, 101, 97, 100, 10] := ⟨_, rfl⟩
      have h4 : S4.data.toList = l4 := by rw [e4, hl4, toList_app, HS.out]
      have hs4 : S4.size ≤ 47 + 4503599627370503 * k := by rw [e4, ByteArray.size_append]; show S.size + 7 ≤ _; omega
      rw [← e4]
      have AT2 : Hid (RLine w1 l4 t (47 + 4503599627370503 * k) (.string S4) (.int .i64 0) wr) := ⟨0, S4, by omega, rfl, rfl, by simpa using h4, by omega, HR.out⟩
      have L4 := Lib.hid hl4
      clear e4 h4 hs4 HR HS hl4 x1 x2
      clear hszz hsz
      go_loopw [5, 7] (fun v i wr => RLine w1 l4 t (47 + 4503599627370503 * k) v i wr) (fun _ i _ => t.length - (intOf i).toNat)
      case atStart => exact AT2.out
      case round =>
        clear AT2
        obtain ⟨j, S, hj, rfl, rfl, hS, hsz, hbr⟩ := hrel
        have HS := Lib.hid hS
        have HR := Lib.hid hbr
        have x1 := (hbr.cell (p := ⟨w.heap.size, 1, none⟩) hz).trans (BX.out 1)
        have hcell := HC0.out _ hbr
        simp only [List.getElem?_toArray, List.getElem?_cons_succ, List.getElem?_cons_zero] at x1
        clear hbr hS
        by_cases hjt : j < t.length
        · obtain ⟨o, ho⟩ : ∃ o, t[j]? = some o := ⟨_, List.getElem?_eq_getElem hjt⟩
          obtain ⟨b2, off2, rfl, c0, c1, c2, c3, c4⟩ := ops_cells (OPS.out.keep HR.out.size HR.out.block) rfl ho
          have TF := Lib.hid (take_flat lineT t j o ho)
          have OO := Lib.hid (OK.out.ops t (List.mem_of_getElem? TT.out) o (List.mem_of_getElem? ho))
          have hkey := KF.out t (List.mem_of_getElem? TT.out) o (List.mem_of_getElem? ho)
          have hll := line_len o OO.out
          have LN := Lib.hid (rline_any o OO.out (by omega))
          obtain ⟨LA, la1, la2, la3⟩ := bytes_of (lineT o)
          have las : LA.size ≤ 281474976710656 := by omega
          have L1 := Lib.hid la1
          have L2 := Lib.hid la2
          clear ho la1 la2 la3 hll
          have hj2 : (0 : Int) ≤ j := by omega
          have hj3 : (j : Int) < t.length := by omega
          have hj4 : (0 : Int) ≤ k := by omega
          have hj5 : (k : Int) < ts.length := by omega
          have hszz : S.size ≤ 45035996273705000 := by omega
          go_wp2_with fail
          refine (LN.out _).mono ?_
          rintro e w7 ⟨rfl, hb7⟩
          have B7 := Lib.hid (HR.out.trans (hb7.mono HR.out.size))
          clear hb7 HR x1 hcell c0 c1 c2 c3 c4
          rw [← L1.out]
          go_wp2_with fail
          go_roundw
          case rel =>
            refine ⟨j + 1, S ++ LA, by omega, by go_num, rfl, ?_, ?_, B7.out⟩
            · rw [toList_app, HS.out, L2.out, TF.out, List.append_assoc]
            · rw [ByteArray.size_append]; omega
          case measure => simp [intOf]; omega
        · obtain rfl : j = t.length := by omega
          rw [List.take_length] at HS
          go_wp2_with fail
          refine ⟨⟨k + 1, S, by omega, by go_num, rfl, ?_, by omega, HR.out⟩, by simp [intOf]; omega⟩
          rw [take_flat threadT ts k t TT.out, HS.out, L4.out]
          simp [threadT, threadW, List.append_assoc]
    · have hke : k = ts.length := by omega
      subst hke
      rw [List.take_length] at HS
      have hszz : S.size ≤ 36028797018964090 := by omega
      go_wp2_with fail
      obtain ⟨S5, e5⟩ : ∃ S5 : ByteArray, S5 = S ++ ⟨#[112, 105, 99, 107, 115]⟩ := ⟨_, rfl⟩
      obtain ⟨l5, hl5⟩ : ∃ l5, l5 = pre ++ ts.flatMap threadT ++ picksW := ⟨_, rfl⟩
      have h5 : S5.data.toList = l5 := by rw [e5, hl5, toList_app, HS.out]; rfl
      have hs5 : S5.size ≤ 36028797018964100 := by rw [e5, ByteArray.size_append]; show S.size + 5 ≤ _; omega
      rw [← e5]
      have AT3 : Hid (RPick w1 l5 ps (.string S5) (.int .i64 0) wr) := ⟨0, S5, by omega, rfl, rfl, by simpa using h5, by omega, HR.out⟩
      have L5 := Lib.hid hl5
      clear e5 h5 hs5 HR HS hl5 x1 x2 hszz hsz
      go_loopw [5, 8] (fun v i wr => RPick w1 l5 ps v i wr) (fun _ i _ => ps.length - (intOf i).toNat)
      case atStart => exact AT3.out
      case round =>
        clear AT3
        obtain ⟨j, S, hj, rfl, rfl, hS, hsz, hbr⟩ := hrel
        have HS := Lib.hid hS
        have HR := Lib.hid hbr
        have x2 := (hbr.cell (p := ⟨w.heap.size, 2, none⟩) hz).trans (BX.out 2)
        simp only [List.getElem?_toArray, List.getElem?_cons_succ, List.getElem?_cons_zero] at x2
        clear hbr hS
        have hszz : S.size ≤ 45035996273705000 := by omega
        by_cases hjt : j < ps.length
        · obtain ⟨p, hp⟩ : ∃ p, ps[j]? = some p := ⟨_, List.getElem?_eq_getElem hjt⟩
          obtain ⟨b, off, rfl, hcell⟩ := pick_cell (SC.out.below HR.out).pks hp
          obtain ⟨p0, p1⟩ := OK.out.picks p (List.mem_of_getElem? hp)
          have li := itoa_len p p0 p1
          have TF := Lib.hid (take_flat (fun p => 32 :: Lib.itoa p) ps j p hp)
          have WH := Lib.hid (whole_any p p0 p1)
          obtain ⟨LA, la1, la2, la3⟩ := bytes_of (Lib.itoa p)
          have las : LA.size ≤ 21 := by omega
          have L1 := Lib.hid la1
          have L2 := Lib.hid la2
          clear hp la1 la2 la3 li p0 p1
          have hj0 : (0 : Int) ≤ j := by omega
          have hj1 : (j : Int) < ps.length := by omega
          by_cases hbig : 1048576 < S.size
          · have hd : decide ((1048576 : Int) < (S.size : Int)) = true := decide_eq_true (by omega)
            go_wp2_with fail
            go_ret2
            refine ⟨fmt_end (F1.out S.data.toList ((ps.drop j).flatMap (fun p => 32 :: Lib.itoa p) ++ [10]) ?_ (by rw [← Lib.size_eq]; exact hbig)), FIN.out _ HR.out⟩
            rw [TX.out, HS.out, L5.out, take_drop_flat (fun p => 32 :: Lib.itoa p) ps j]
            simp [List.append_assoc]
          · have hd : decide ((1048576 : Int) < (S.size : Int)) = false := decide_eq_false (by omega)
            go_wp2_with fail
            refine (WH.out _).mono ?_
            rintro e w7 ⟨rfl, rfl⟩
            rw [← L1.out]
            go_wp2_with fail
            go_roundw
            case rel =>
              refine ⟨j + 1, _, by omega, by go_num, rfl, ?_, ?_, HR.out⟩
              · rw [toList_app, toList_app, HS.out, L2.out, TF.out, List.append_assoc]
                rfl
              · rw [ByteArray.size_append, ByteArray.size_append]; show S.size + (1 + LA.size) ≤ _; omega
            case measure => simp [intOf]; omega
        · obtain rfl : j = ps.length := by omega
          rw [List.take_length] at HS
          obtain ⟨S8, e8⟩ : ∃ S8 : ByteArray, S8 = S ++ ⟨#[10]⟩ := ⟨_, rfl⟩
          have h8 : S8.data.toList = textS ⟨m, ts, ps⟩ := by
            rw [e8, TX.out, toList_app, HS.out, L5.out]
          have z8 : S8.size = S.size + 1 := by rw [e8, ByteArray.size_append]; rfl
          have H8 := Lib.hid h8
          clear h8
          by_cases hbig : 1048576 < S.size + 1
          · have hd : decide ((1048576 : Int) < (S.size : Int) + 1) = true := decide_eq_true (by omega)
            go_wp2_with fail
            go_ret2
            exact ⟨fmt_end (F1.out S8.data.toList [] (by rw [H8.out]; simp) (by rw [← Lib.size_eq, z8]; exact hbig)), FIN.out _ HR.out⟩
          · have hd : decide ((1048576 : Int) < (S.size : Int) + 1) = false := decide_eq_false (by omega)
            go_wp2_with fail
            go_ret2
            refine ⟨?_, FIN.out _ HR.out⟩
            have := fmt_end (F2.out (by rw [← H8.out, ← Lib.size_eq, z8]; omega))
            rw [← H8.out] at this
            rw [← this, ← e8]
            cases S8
            simp
theorem rformat_any (w : World) (A D : Option Addr) (c d : Nat) (s : ScrD) (h : ScrAt w A D s) (ok : ScrOk s) (kf : ∀ t ∈ s.threads, ∀ o ∈ t, o.key.size ≤ 140737488351232) :
    Calls Tryd.prog 9 #[scrV s.mask A s.threads.length c D s.picks.length d] w fun e w' => e = .returned (.tuple #[.string ⟨(formatS s).1.toArray⟩, .int .i64 (formatS s).2]) ∧ Below w.heap.size w w' := by
  rcases check_or s with hc | hc
  · exact rformat_good w A D c d s h ok kf hc
  · exact rformat_bads w A D c d s h hc
end Go.Proofs.YtnoeiaicligmiaaDoor
namespace Go.Proofs.YtnoeiaicligmiaaDoor
set_option linter.unusedVariables false
set_option linter.unusedSimpArgs false
open Go Go.RowKit
section
variable {P : Program} {ops : Array Oper} {C : World → Prop} {Q : Act → Prop} {a : Act} {o : Oper} {rest : List Oper}
theorem wp_region_class {id : Nat} {Q : Exit → Act → World → Prop} {a : Act} {w : World} {l : List Oper} (hm : P.follows .mixedOrders = true) (hB : Region.lexB .any l.toArray = true) (hC : C w.drew)
    (h : wpQuiet P l.toArray C (fun a' => ∀ w', C w' → Q .normal a' w') l a) : (Code.region id l.toArray true).wp P Q a w :=
  wp_region_quiet (C := C) hm hB hC (by simpa using h)
theorem wpQuiet_take {v : Value} (hw : Region.wanted o (yielded ops a.tmps) = true) (hy : ∀ w, C w → o.quietAt P a C w v) (h : wpQuiet P ops C Q rest (a.put o.dst v)) : wpQuiet P ops C Q (o :: rest) a :=
  wpQuiet_step fun K hK => by rw [if_pos hw]; exact ⟨v, hy, hK _ h⟩
end
end Go.Proofs.YtnoeiaicligmiaaDoor
namespace Go.Proofs.YtnoeiaicligmiaaDoor
set_option linter.unusedVariables false
set_option linter.unusedSimpArgs false
open Go Go.RowKit Go.MapKept
theorem sb0 (w : World) : Below w.heap.size w w.drew := (Below.refl _ _).drew
theorem lift_below {w W w' : World} {x y : Ending} (hb : Below w.heap.size w W) (h : x = y ∧ Below W.heap.size W w') : x = y ∧ Below w.heap.size w w' := ⟨h.1, hb.trans (h.2.mono hb.size)⟩
set_option maxRecDepth 100000 in
set_option maxHeartbeats 2000000 in
theorem formats_any (w : World) (A D : Option Addr) (c d : Nat) (s : ScrD) (h : ScrAt w A D s) (ok : ScrOk s) (kf : ∀ t ∈ s.threads, ∀ o ∈ t, o.key.size ≤ 140737488351232) (h0 : s.threads.length ≤ 1000) (h1 : ∀ t ∈ s.threads, t.length ≤ 1000) (env : Env w) :
    Calls Tryd.prog 19 #[scrV s.mask A s.threads.length c D s.picks.length d] w fun e w' => e = .returned (.bool true) ∧ Below w.heap.size w w' := by
  obtain ⟨W0, hW0⟩ : ∃ W0, W0 = w.alloc (.cells #[.int .u64 s.mask, .slice A s.threads.length c, .slice D s.picks.length d] 32) := ⟨_, rfl⟩
  have hb0 : Below w.heap.size w W0 := by rw [hW0]; exact (Below.refl _ _).alloc (Nat.le_refl _) _
  have hz0 : w.heap.size < W0.heap.size := by rw [hW0]; simp
  have hk0 : W0.heap[w.heap.size]? = some (.cells #[.int .u64 s.mask, .slice A s.threads.length c, .slice D s.picks.length d] 32 (0, 0)) := by rw [hW0]; exact (heap_alloc w _).1
  have hA := h.below hb0
  have E0 := env.below hb0
  have F1 : Hid (∀ W, Below W0.heap.size W0 W → Calls Tryd.prog 16 #[.agg #[.int .u64 s.mask, .slice A s.threads.length c, .slice D s.picks.length d]] W fun e w' => e = .returned (.tuple #[.string ⟨(formatS s).1.toArray⟩, .int .i64 (formatS s).2]) ∧ Below W0.heap.size W0 w') := fun W hb => (format_any W A D c d s (hA.below hb) ok (E0.below hb).tab).mono fun e w' p => lift_below hb p
  have F2 : Hid (∀ W, Below W0.heap.size W0 W → Calls Tryd.prog 9 #[.agg #[.int .u64 s.mask, .slice A s.threads.length c, .slice D s.picks.length d]] W fun e w' => e = .returned (.tuple #[.string ⟨(formatS s).1.toArray⟩, .int .i64 (formatS s).2]) ∧ Below W0.heap.size W0 w') := fun W hb => (rformat_any W A D c d s (hA.below hb) ok kf).mono fun e w' p => lift_below hb p
  have C1 : Hid (∀ W, Below W0.heap.size W0 W → Calls Tryd.prog 20 #[.agg #[.int .u64 s.mask, .slice A s.threads.length c, .slice D s.picks.length d]] W fun e w' => e = .returned (.int .i64 (checkS s)) ∧ Below W0.heap.size W0 w') := fun W hb => (check_any W A D c d s (hA.below hb)).mono fun e w' p => lift_below hb p
  have C2 : Hid (∀ W, Below W0.heap.size W0 W → Calls Tryd.prog 23 #[.agg #[.int .u64 s.mask, .slice A s.threads.length c, .slice D s.picks.length d]] W fun e w' => e = .returned (.int .i64 (checkS s)) ∧ Below W0.heap.size W0 w') := fun W hb => (rcheck_any W A D c d s (hA.below hb)).mono fun e w' p => lift_below hb p
  have O1 : Hid (∀ W, Below W0.heap.size W0 W → Calls Tryd.prog 21 #[.agg #[.int .u64 s.mask, .slice A s.threads.length c, .slice D s.picks.length d]] W fun e w' => e = .returned (.int .i64 (sumL s.threads)) ∧ Below W0.heap.size W0 w') := fun W hb => (ops_any W A D c d s (hA.below hb) h0 h1).mono fun e w' p => lift_below hb p
  have O2 : Hid (∀ W, Below W0.heap.size W0 W → Calls Tryd.prog 39 #[.agg #[.int .u64 s.mask, .slice A s.threads.length c, .slice D s.picks.length d]] W fun e w' => e = .returned (.int .i64 (sumL s.threads)) ∧ Below W0.heap.size W0 w') := fun W hb => (rops_any W A D c d s (hA.below hb) h0 h1).mono fun e w' p => lift_below hb p
  have KEEP : Hid (∀ W, Below W0.heap.size W0 W → W.cell? ⟨w.heap.size, 0, none⟩ = some (.int .u64 s.mask) ∧ W.cell? ⟨w.heap.size, 1, none⟩ = some (.slice A s.threads.length c) ∧ W.cell? ⟨w.heap.size, 2, none⟩ = some (.slice D s.picks.length d)) := fun W hb => by
    have := (hb.block _ hz0).trans hk0
    exact ⟨blk_cell this 0, blk_cell this 1, blk_cell this 2⟩
  have B0 := Lib.hid hb0
  have hr := Below.refl W0.heap.size W0
  generalize checkS s = cs at *
  generalize sumL s.threads = sm at *
  generalize hT : (⟨(formatS s).1.toArray⟩ : ByteArray) = T at *
  generalize (formatS s).2 = er at *
  have HT := Lib.hid hT
  have HW := Lib.hid hW0
  have HB := Lib.hid hr
  clear hT hb0 hz0 hk0 hA E0 h ok kf h0 h1 env hW0 hr
  simp only [scrV]
  go_enter Tryd.func19, Tryd.ntmps19
  go_wp2_with fail
  rw [← HW.out]
  refine (F1.out _ HB.out).mono ?_
  rintro e w1 ⟨rfl, hb1⟩
  obtain ⟨y0, y1, y2⟩ := KEEP.out _ hb1
  go_wp2_with fail
  refine (F2.out _ hb1).mono ?_
  rintro e w2 ⟨rfl, hb2⟩
  clear y0 y1 y2 hb1
  have BD : Hid (Below W0.heap.size W0 w2.drew) := hb2.drew
  clear hb2
  have t1 : (T.toList == T.toList) = true := by simp
  go_upto_region 3 with fail
  refine wp_region_class (C := fun W => Below W0.heap.size W0 W) (by kernel_rfl) (by kernel_rfl) BD.out ?_
  repeat (first | go_big_quiet_step (fail) | (refine' wpQuiet_take (by kernel_rfl) (fun W hW => ?_) ?_; rotate_left; (obtain ⟨y0, y1, y2⟩ := KEEP.out W hW); go_simp; (first | rfl | (with_reducible exact C1.out _ hW) | (with_reducible exact C2.out _ hW) | (with_reducible exact O1.out _ hW) | (with_reducible exact O2.out _ hW)); (simp only [Act.put, List.setIfInBounds_toArray, List.set_cons_zero, List.set_cons_succ])))
  refine wpQuiet_nil ?_
  intro w3 hb3
  go_wp2_with fail
  go_ret
  exact ⟨rfl, B0.out.trans (hb3.mono B0.out.size)⟩
end Go.Proofs.YtnoeiaicligmiaaDoor
namespace Go.Proofs.YtnoeiaicligmiaaDoor
set_option linter.unusedVariables false
set_option linter.unusedSimpArgs false
open Go Go.RowKit Go.MapKept
theorem small_len {s : ScrD} (h : smallS s = true) : s.threads.length ≤ 1000 ∧ ∀ t ∈ s.threads, t.length ≤ 1000 := by
  unfold smallS at h
  simp at h
  exact ⟨by omega, fun t ht => by have := h.2.2 t ht; omega⟩
set_option maxRecDepth 100000 in
set_option maxHeartbeats 4000000 in
theorem scriptFormats_walk (Aa : Option Addr) (ca : Nat) (Da : Option Addr) (da : Nat) (sa : ScrD) (A : Option Addr) (n c : Nat) (A2 : Option Addr) (n2 c2 : Nat) (o : OpD) (w : World)
    (ha : ScrAt w Aa Da sa ∧ ScrOk sa ∧ KeysFit sa) (hi : IntsAt w A n) (hi2 : IntsAt w A2 n2) (ho : OpOk o ∧ o.key.size ≤ 140737488351232) (env : Env w) :
    Calls Tryd.prog 5 #[scrV sa.mask Aa sa.threads.length ca Da sa.picks.length da, .slice A n c, .slice A2 n2 c2, opV o] w fun e w' => e = .returned (.bool true) ∧ Below w.heap.size w w' := by
  obtain ⟨W0, hW0⟩ : ∃ W0, W0 = (w.alloc (.cells #[.int .u64 sa.mask, .slice Aa sa.threads.length ca, .slice Da sa.picks.length da] 32)).alloc (.cells #[.int .i64 o.kind, .int .i64 o.handle, .string o.key, .int .u64 o.value, .int .u64 o.expect] 39) := ⟨_, rfl⟩
  have hb0 : Below w.heap.size w W0 := by rw [hW0]; exact ((Below.refl _ _).alloc (Nat.le_refl _) _).alloc (by simp) _
  have hz0 : w.heap.size + 1 < W0.heap.size := by rw [hW0]; simp
  have hk0 : W0.heap[w.heap.size]? = some (.cells #[.int .u64 sa.mask, .slice Aa sa.threads.length ca, .slice Da sa.picks.length da] 32 (0, 0)) := by rw [hW0]; exact (Below.heap_alloc _ _ _ (by simp)).trans (heap_alloc w _).1
  have hk1 : W0.heap[w.heap.size + 1]? = some (.cells #[.int .i64 o.kind, .int .i64 o.handle, .string o.key, .int .u64 o.value, .int .u64 o.expect] 39 (0, 0)) := by
    rw [hW0]
    have h := (heap_alloc (w.alloc (.cells #[.int .u64 sa.mask, .slice Aa sa.threads.length ca, .slice Da sa.picks.length da] 32)) (.cells #[.int .i64 o.kind, .int .i64 o.handle, .string o.key, .int .u64 o.value, .int .u64 o.expect] 39)).1
    rwa [show (w.alloc (.cells #[.int .u64 sa.mask, .slice Aa sa.threads.length ca, .slice Da sa.picks.length da] 32)).heap.size = w.heap.size + 1 by simp] at h
  have hA := ha.1.below hb0
  have E0 := Lib.hid (env.below hb0)
  have AWK : Hid (∀ W, Below W0.heap.size W0 W → Calls Tryd.prog 12 #[] W fun e w' => e = .returned (.bool true) ∧ Below W0.heap.size W0 w') := awake_in E0.out
  have SMA : Hid (∀ W, Below W0.heap.size W0 W → Calls Tryd.prog 15 #[.agg #[.int .u64 sa.mask, .slice Aa sa.threads.length ca, .slice Da sa.picks.length da]] W fun e w' => e = .returned (.bool (smallS sa)) ∧ Below W0.heap.size W0 w') := small_in ca da hA
  have FS : Hid (smallS sa = true → ∀ W, Below W0.heap.size W0 W → Calls Tryd.prog 19 #[.agg #[.int .u64 sa.mask, .slice Aa sa.threads.length ca, .slice Da sa.picks.length da]] W fun e w' => e = .returned (.bool true) ∧ Below W0.heap.size W0 w') := fun hs W hb => (formats_any W Aa Da ca da sa (hA.below hb) ha.2.1 ha.2.2 (small_len hs).1 (small_len hs).2 (E0.out.below hb)).mono fun e w' p => lift_below hb p
  have KEEP : Hid (∀ W, Below W0.heap.size W0 W → W.cell? ⟨w.heap.size, 0, none⟩ = some (.int .u64 sa.mask) ∧ W.cell? ⟨w.heap.size, 1, none⟩ = some (.slice Aa sa.threads.length ca) ∧ W.cell? ⟨w.heap.size, 2, none⟩ = some (.slice Da sa.picks.length da) ∧
      W.cell? ⟨w.heap.size + 1, 0, none⟩ = some (.int .i64 o.kind) ∧ W.cell? ⟨w.heap.size + 1, 1, none⟩ = some (.int .i64 o.handle) ∧ W.cell? ⟨w.heap.size + 1, 2, none⟩ = some (.string o.key) ∧ W.cell? ⟨w.heap.size + 1, 3, none⟩ = some (.int .u64 o.value) ∧ W.cell? ⟨w.heap.size + 1, 4, none⟩ = some (.int .u64 o.expect)) := fun W hb => by
    have h1 := (hb.block _ (by omega)).trans hk0
    have h2 := (hb.block _ hz0).trans hk1
    exact ⟨blk_cell h1 0, blk_cell h1 1, blk_cell h1 2, blk_cell h2 0, blk_cell h2 1, blk_cell h2 2, blk_cell h2 3, blk_cell h2 4⟩
  have I1 := Lib.hid (hi.below hb0)
  have I2 := Lib.hid (hi2.below hb0)
  have HO := Lib.hid (show OpFit o from ho)
  have BD : Hid (Below W0.heap.size W0 W0.drew) := (Below.refl _ _).drew
  have B0 := Lib.hid hb0
  have HW := Lib.hid hW0
  generalize smallS sa = ba at *
  clear ha hi hi2 ho env hb0 hz0 hk0 hk1 hA hW0
  simp only [scrV, opV]
  have hr := Below.refl W0.heap.size W0
  have HB := Lib.hid hr
  clear hr
  cases ba
  case false =>
    go_enter Tryd.func5, Tryd.ntmps5
    go_wp2_with fail
    rw [← HW.out]
    refine (AWK.out _ HB.out).mono ?_
    rintro e wl ⟨rfl, hbl⟩
    obtain ⟨y0, y1, y2, z0, z1, z2, z3, z4⟩ := KEEP.out _ hbl
    go_wp2_with fail
    refine (SMA.out _ hbl).mono ?_
    clear y0 y1 y2 z0 z1 z2 z3 z4 hbl
    rintro e wl ⟨rfl, hbl⟩
    obtain ⟨y0, y1, y2, z0, z1, z2, z3, z4⟩ := KEEP.out _ hbl
    go_wp2_with fail
    refine (gen_fit _ A n c (I1.out.below hbl)).mono ?_
    rintro e w5 ⟨s5, A5, c5, D5, d5, rfl, hs5, fit5, hb5⟩
    have B5 := Lib.hid (hbl.trans (hb5.mono hbl.size))
    have S5 := Lib.hid hs5
    have T5 := Lib.hid fit5
    clear hs5 fit5 hb5 hbl y0 y1 y2 z0 z1 z2 z3 z4
    simp only [scrV]
    go_wp2_with fail
    refine (formats_any _ A5 D5 c5 d5 s5 S5.out T5.out.ok T5.out.keys T5.out.n0 T5.out.n1 (E0.out.below B5.out)).mono ?_
    rintro e wl ⟨rfl, hb6⟩
    have hbl := B5.out.trans (hb6.mono B5.out.size)
    clear hb6 B5 S5 T5
    obtain ⟨y0, y1, y2, z0, z1, z2, z3, z4⟩ := KEEP.out _ hbl
    go_wp2_with fail
    refine (wild_fit _ A n c (I1.out.below hbl) A2 n2 c2 (I2.out.below hbl) o HO.out).mono ?_
    rintro e w5 ⟨s5, A5, c5, D5, d5, rfl, hs5, fit5, hb5⟩
    have B5 := Lib.hid (hbl.trans (hb5.mono hbl.size))
    have S5 := Lib.hid hs5
    have T5 := Lib.hid fit5
    clear hs5 fit5 hb5 hbl y0 y1 y2 z0 z1 z2 z3 z4
    simp only [scrV]
    go_wp2_with fail
    refine (formats_any _ A5 D5 c5 d5 s5 S5.out T5.out.ok T5.out.keys T5.out.n0 T5.out.n1 (E0.out.below B5.out)).mono ?_
    rintro e wl ⟨rfl, hb6⟩
    have hbl := B5.out.trans (hb6.mono B5.out.size)
    clear hb6 B5 S5 T5
    go_wp2_with fail
    go_ret
    exact ⟨rfl, B0.out.trans (hbl.mono B0.out.size)⟩
  case true =>
    go_enter Tryd.func5, Tryd.ntmps5
    go_wp2_with fail
    rw [← HW.out]
    refine (AWK.out _ HB.out).mono ?_
    rintro e wl ⟨rfl, hbl⟩
    obtain ⟨y0, y1, y2, z0, z1, z2, z3, z4⟩ := KEEP.out _ hbl
    go_wp2_with fail
    refine (SMA.out _ hbl).mono ?_
    clear y0 y1 y2 z0 z1 z2 z3 z4 hbl
    rintro e wl ⟨rfl, hbl⟩
    obtain ⟨y0, y1, y2, z0, z1, z2, z3, z4⟩ := KEEP.out _ hbl
    go_wp2_with fail
    refine (FS.out trivial _ hbl).mono ?_
    clear y0 y1 y2 z0 z1 z2 z3 z4 hbl
    rintro e wl ⟨rfl, hbl⟩
    obtain ⟨y0, y1, y2, z0, z1, z2, z3, z4⟩ := KEEP.out _ hbl
    go_wp2_with fail
    refine (gen_fit _ A n c (I1.out.below hbl)).mono ?_
    rintro e w5 ⟨s5, A5, c5, D5, d5, rfl, hs5, fit5, hb5⟩
    have B5 := Lib.hid (hbl.trans (hb5.mono hbl.size))
    have S5 := Lib.hid hs5
    have T5 := Lib.hid fit5
    clear hs5 fit5 hb5 hbl y0 y1 y2 z0 z1 z2 z3 z4
    simp only [scrV]
    go_wp2_with fail
    refine (formats_any _ A5 D5 c5 d5 s5 S5.out T5.out.ok T5.out.keys T5.out.n0 T5.out.n1 (E0.out.below B5.out)).mono ?_
    rintro e wl ⟨rfl, hb6⟩
    have hbl := B5.out.trans (hb6.mono B5.out.size)
    clear hb6 B5 S5 T5
    obtain ⟨y0, y1, y2, z0, z1, z2, z3, z4⟩ := KEEP.out _ hbl
    go_wp2_with fail
    refine (wild_fit _ A n c (I1.out.below hbl) A2 n2 c2 (I2.out.below hbl) o HO.out).mono ?_
    rintro e w5 ⟨s5, A5, c5, D5, d5, rfl, hs5, fit5, hb5⟩
    have B5 := Lib.hid (hbl.trans (hb5.mono hbl.size))
    have S5 := Lib.hid hs5
    have T5 := Lib.hid fit5
    clear hs5 fit5 hb5 hbl y0 y1 y2 z0 z1 z2 z3 z4
    simp only [scrV]
    go_wp2_with fail
    refine (formats_any _ A5 D5 c5 d5 s5 S5.out T5.out.ok T5.out.keys T5.out.n0 T5.out.n1 (E0.out.below B5.out)).mono ?_
    rintro e wl ⟨rfl, hb6⟩
    have hbl := B5.out.trans (hb6.mono B5.out.size)
    clear hb6 B5 S5 T5
    go_wp2_with fail
    go_ret
    exact ⟨rfl, B0.out.trans (hbl.mono B0.out.size)⟩
end Go.Proofs.YtnoeiaicligmiaaDoor
