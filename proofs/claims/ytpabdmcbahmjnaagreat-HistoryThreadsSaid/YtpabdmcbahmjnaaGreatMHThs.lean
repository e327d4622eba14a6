/- The walk of the law HistoryThreads. -/
import Derived.Test.YtpabdmcbahmjnaaGreatMW25
namespace Go.Proofs.YtpabdmcbahmjnaaGreat
open Go Go.RowKit Go.MapKept
set_option linter.unusedSimpArgs false
set_option linter.unusedVariables false
def retN (l : List EvD) (j : Nat) : Nat := (((invokedP l).take j).filter fun a => decide (0 ≤ whenP l a true)).length
theorem retN_all (l : List EvD) : retN l (invokedP l).length = (backP l).length := by unfold retN backP; rw [List.take_length]
theorem retN_le (l : List EvD) (j : Nat) : retN l j ≤ j := by
 unfold retN
 exact Nat.le_trans (List.length_filter_le _ _) (by rw [List.length_take]; omega)
theorem retN_hit {l : List EvD} {j : Nat} {a : OpP} (h : (invokedP l)[j]? = some a) {r : ResF} (hr : resultP l a = some r) : retN l (j + 1) = retN l j + 1 := by
 have hw : ¬ whenP l a true = -1 := fun hw => by rw [result_none.2 hw] at hr; cases hr
 have lo := when_lo l a true
 unfold retN
 rw [List.take_add_one, h, List.filter_append]
 simp [show 0 ≤ whenP l a true by omega]
theorem retN_miss {l : List EvD} {j : Nat} {a : OpP} (h : (invokedP l)[j]? = some a) (hr : resultP l a = none) : retN l (j + 1) = retN l j := by
 have hw := result_none.1 hr
 unfold retN
 rw [List.take_add_one, h, List.filter_append]
 simp [hw]
def T1Rel (w5 : World) (l : List EvD) (v i : Value) (wr : World) : Prop := ∃ j : Nat, j ≤ (invokedP l).length ∧ i = .int .i64 j ∧ v = .int .i64 (retN l j) ∧ Below w5.heap.size w5 wr
def T2Rel (w5 : World) (n : Nat) (l : List EvD) (v i : Value) (wr : World) : Prop := ∃ j : Nat, j ≤ n ∧ i = .int .i64 j ∧ v = .int .i64 (belowT l j) ∧ Below w5.heap.size w5 wr
theorem belowT_le (l : List EvD) (j : Nat) : belowT l j ≤ l.length := by unfold belowT; exact List.length_filter_le _ _
set_option maxRecDepth 100000 in
set_option maxHeartbeats 8000000 in
theorem historyThreads_walk (A : Option Addr) (n c : Nat) (w : World) (hi : Sc.IntsAt w A n) :
  Calls Tryz.prog 6 #[.slice A n c] w fun e w' => e = .returned (.bool true) ∧ Below w.heap.size w w' := by
 go_enter Tryz.func6, Tryz.ntmps6
 go_wp2_with (first | (go_at_call 8; refine stopAt ?_))
 unfold StopAt
 refine (gen_s w A n c hi).mono ?_
 rintro e w1 ⟨v, ts, rfl, hg, hb1⟩
 have B1 := Lib.hid hb1
 go_wp2_with (first | (go_at_call 7; refine stopAt ?_))
 unfold StopAt
 refine (new_s hg).mono ?_
 rintro e w2 ⟨p, rfl, hn⟩
 clear hg hb1
 go_wp2_with (first | (go_at_call 9; refine stopAt ?_))
 unfold StopAt
 refine (run_s hn).mono ?_
 rintro e w3 ⟨⟨v', rfl⟩, hb3, l, hok, hm⟩
 have B3 := Lib.hid (B1.out.trans (hb3.mono B1.out.size))
 have MO := Lib.hid hok
 obtain ⟨p0, ⟨A1, c1, z1, _⟩, E1, d1, z2, hd, he1⟩ := hm
 have HE := Lib.hid he1
 have Z1 := Lib.hid z1
 have hlen := MO.out.len
 clear hn hb3 hok he1 z1
 go_wp2_with (first | (go_at_call 13; refine stopAt ?_))
 unfold StopAt
 refine (hinvoked_any w3 E1 d1 l MO.out.fit HE.out).mono ?_
 rintro e w5 ⟨A2, c2, rfl, ho, hb5⟩
 have B5 := Lib.hid (B3.out.trans (hb5.mono B3.out.size))
 have O5 := Lib.hid ho
 have E5 := Lib.hid (HE.out.below hb5)
 have Z5 := Lib.hid ((hb5.cell (p := ⟨p, 1, none⟩) p0).trans Z1.out)
 have p5 : p < w5.heap.size := Nat.lt_of_lt_of_le p0 hb5.size
 have IF := Lib.hid (inv_fitH MO.out.fit)
 have hin : (invokedP l).length ≤ l.length := invN_len l l.length
 clear ho hb5 z2 Z1
 go_wp2_with fail
 go_loopw [6, 28] (fun v i wr => T1Rel w5 l v i wr) (fun _ i _ => (invokedP l).length - (intOf i).toNat)
 case atStart => exact ⟨0, by omega, rfl, by simp [retN], Below.refl _ _⟩
 case round =>
  obtain ⟨j, hj, rfl, rfl, hbw⟩ := hrel
  have HB := Lib.hid hbw
  have hrn := retN_le l j
  clear hbw
  by_cases hlt : j < (invokedP l).length
  ·obtain ⟨a, hx⟩ : ∃ a, (invokedP l)[j]? = some a := ⟨_, List.getElem?_eq_getElem hlt⟩
   obtain ⟨b, off, rfl, hb, hc⟩ := (O5.out.below HB.out) (by omega)
   obtain ⟨z0, z1⟩ := hc j a hx
   have ha := List.mem_of_getElem? hx
   have FA := Lib.hid (IF.out a ha)
   have BP := Lib.hid (fun h0 => before_prev MO.out.prop ha h0)
   have RH := Lib.hid (fun r hr => retN_hit (r := r) hx hr)
   have RM := Lib.hid (fun hr => retN_miss hx hr)
   have hj0 : (0 : Int) ≤ j := by omega
   have hj1 : (j : Int) < (invokedP l).length := by omega
   clear hx hc ha
   obtain ⟨a0, a1⟩ := a
   simp only at z0 z1
   go_upto_region 8 with fail
   obtain ⟨W1, hW1⟩ : ∃ W1, W1 = wr.alloc (.cells #[.int .i64 a0, .int .i64 a1] 44) := ⟨_, rfl⟩
   have HB1 : Hid (Below w5.heap.size w5 W1) := by rw [hW1]; exact HB.out.alloc HB.out.size _
   have KA : Hid (W1.heap[wr.heap.size]? = some (opBox (a0, a1))) := by rw [hW1]; exact (heap_alloc wr _).1
   rw [← hW1]
   clear hW1 z0 z1
   generalize wr.heap.size = za at *
   obtain ⟨x0, x1⟩ := opBox_cells KA.out
   simp only at x0 x1
   go_wp2_with (first | (go_at_call 18; refine stopAt ?_))
   unfold StopAt
   refine (hresult_any W1 E1 d1 l MO.out.fit (E5.out.below HB1.out) (a0, a1) FA.out).mono ?_
   rintro e W2 ⟨rfl, hb2⟩
   have HB2 := Lib.hid (HB1.out.trans (hb2.mono HB1.out.size))
   have KA2 := Lib.hid (kept_block' KA.out hb2)
   have fa := FA.out
   unfold OpFit at fa
   simp only at fa
   clear hb2 x0 x1 KA
   cases hr : resultP l (a0, a1) with
   | none =>
    have RN := Lib.hid (RM.out hr)
    clear hr
    simp only [resOut, resV, ResF.zero]
    go_upto_region 11 with fail
    obtain ⟨W3, hW3⟩ : ∃ W3, W3 = W2.alloc (.cells #[.int .i64 0, .bool false, .int .u64 0, .string ⟨#[]⟩, .int .i64 0, .int .i64 0, .int .i64 0, .bool false] 56) := ⟨_, rfl⟩
    have HB3 : Hid (Below w5.heap.size w5 W3) := by rw [hW3]; exact HB2.out.alloc HB2.out.size _
    have KA3 : Hid (W3.heap[za]? = some (opBox (a0, a1))) := by rw [hW3]; exact kept_block' KA2.out (balZ (Below.refl _ _) _)
    rw [← hW3]
    clear hW3
    obtain ⟨x0, x1⟩ := opBox_cells KA3.out
    simp only at x0 x1
    by_cases h0 : 0 < a1
    ·have BV := Lib.hid (BP.out h0)
     have hgt : decide (0 < a1) = true := by simpa using h0
     go_wp2_with (first | (go_at_call 14; refine stopAt ?_))
     unfold StopAt
     refine (hbefore_any W3 E1 d1 l MO.out.fit (E5.out.below HB3.out) (a0, a1 - 1) (a0, a1) ⟨fa.1, by simp only; omega, by simp only; omega⟩ FA.out).mono ?_
     rintro e W4 ⟨rfl, hb4⟩
     rw [BV.out]
     have HB4 := Lib.hid (HB3.out.trans (hb4.mono HB3.out.size))
     clear hb4
     go_wp2_with fail
     go_roundw
     case rel => exact ⟨j + 1, by omega, by go_num, by rw [RN.out], HB4.out⟩
     case measure => simp [intOf]; omega
    ·have hgt : decide (0 < a1) = false := by simpa using h0
     go_wp2_with fail
     go_roundw
     case rel => exact ⟨j + 1, by omega, by go_num, by rw [RN.out], HB3.out⟩
     case measure => simp [intOf]; omega
   | some r =>
    have RN := Lib.hid (RH.out r hr)
    clear hr
    simp only [resOut, resV]
    go_upto_region 11 with fail
    obtain ⟨W3, hW3⟩ : ∃ W3, W3 = W2.alloc (.cells #[.int .i64 r.err, .bool r.found, .int .u64 r.value, .string r.key, .int .i64 r.count, .int .i64 r.ref, .int .i64 r.root, .bool r.ro] 56) := ⟨_, rfl⟩
    have HB3 : Hid (Below w5.heap.size w5 W3) := by rw [hW3]; exact HB2.out.alloc HB2.out.size _
    have KA3 : Hid (W3.heap[za]? = some (opBox (a0, a1))) := by rw [hW3]; exact kept_block' KA2.out (balZ (Below.refl _ _) _)
    rw [← hW3]
    clear hW3
    obtain ⟨x0, x1⟩ := opBox_cells KA3.out
    simp only at x0 x1
    by_cases h0 : 0 < a1
    ·have BV := Lib.hid (BP.out h0)
     have hgt : decide (0 < a1) = true := by simpa using h0
     go_wp2_with (first | (go_at_call 14; refine stopAt ?_))
     unfold StopAt
     refine (hbefore_any W3 E1 d1 l MO.out.fit (E5.out.below HB3.out) (a0, a1 - 1) (a0, a1) ⟨fa.1, by simp only; omega, by simp only; omega⟩ FA.out).mono ?_
     rintro e W4 ⟨rfl, hb4⟩
     rw [BV.out]
     have HB4 := Lib.hid (HB3.out.trans (hb4.mono HB3.out.size))
     clear hb4
     go_wp2_with fail
     go_roundw
     case rel => exact ⟨j + 1, by omega, by go_num, by rw [RN.out]; go_num, HB4.out⟩
     case measure => simp [intOf]; omega
    ·have hgt : decide (0 < a1) = false := by simpa using h0
     go_wp2_with fail
     go_roundw
     case rel => exact ⟨j + 1, by omega, by go_num, by rw [RN.out]; go_num, HB3.out⟩
     case measure => simp [intOf]; omega
  ·have hje : j = (invokedP l).length := by omega
   have RA := Lib.hid (show retN l j = (backP l).length by rw [hje]; exact retN_all l)
   clear hje
   have LP := Lib.hid (len_parts MO.out.prop)
   have PP := Lib.hid (pend_parts l)
   have BA := Lib.hid (show belowT l ts.length = l.length by have := belowT_all MO.out.prop; rwa [lens_len] at this)
   have BZ := Lib.hid (belowT_zero MO.out.prop)
   have hn3 := MO.out.n
   go_wp2_with fail
   go_loopw [7, 12] (fun v i wr => T2Rel w5 ts.length l v i wr) (fun _ i _ => ts.length - (intOf i).toNat)
   case atStart => exact ⟨0, by omega, rfl, by rw [BZ.out]; rfl, HB.out⟩
   case round =>
    obtain ⟨k, hk, rfl, rfl, hbw⟩ := hrel
    have HC := Lib.hid hbw
    clear hbw
    have zc := (HC.out.cell (p := ⟨p, 1, none⟩) p5).trans Z5.out
    have hle := belowT_le l k
    by_cases hlt2 : k < ts.length
    ·have BS := Lib.hid (belowT_succ l k)
     have hle2 := belowT_le l (k + 1)
     have hk1 : (k : Int) < ts.length := by omega
     have hd2 : decide ((k : Int) < ts.length) = true := by simpa using hk1
     go_wp2_with (first | (go_at_call 19; refine stopAt ?_))
     unfold StopAt
     refine (hthread_any _ E1 d1 l (by omega) (E5.out.below HC.out) (k : Int)).mono ?_
     rintro e W6 ⟨A6, c6, rfl, _, hb6⟩
     have HC6 := Lib.hid (HC.out.trans (hb6.mono HC.out.size))
     have hsum : belowT l k + (threadP l (k : Int)).length ≤ 200 := by rw [← BS.out]; omega
     clear hb6 zc
     go_wp2_with fail
     go_roundw
     case rel => exact ⟨k + 1, by omega, by go_num, by rw [BS.out]; go_num, HC6.out⟩
     case measure => simp [intOf]; omega
    ·have hke : k = ts.length := by omega
     have KE := Lib.hid (show belowT l k = l.length by rw [hke]; exact BA.out)
     clear hke
     have hd2 : decide ((k : Int) < ts.length) = false := by simp; omega
     have PN : Hid (∀ W, Below w5.heap.size w5 W → Calls Tryz.prog 20 #[.slice E1 l.length d1] W fun e w' => ∃ (A : Option Addr) (c : Nat), e = .returned (.slice A (pendingP l).length c) ∧ Below W.heap.size W w') := fun W hW =>
      (hpending_any W E1 d1 l MO.out.fit (E5.out.below hW)).mono fun e w' ⟨A, c, h1, _, h2⟩ => ⟨A, c, h1, h2⟩
     have IN : Hid (∀ W, Below w5.heap.size w5 W → Calls Tryz.prog 13 #[.slice E1 l.length d1] W fun e w' => ∃ (A : Option Addr) (c : Nat), e = .returned (.slice A (invokedP l).length c) ∧ Below W.heap.size W w') := fun W hW =>
      (hinvoked_any W E1 d1 l MO.out.fit (E5.out.below hW)).mono fun e w' ⟨A, c, h1, _, h2⟩ => ⟨A, c, h1, h2⟩
     have lp := LP.out
     have pp := PP.out
     rw [RA.out, KE.out]
     clear LP PP RA KE BA BZ IF O5 E5 MO hle hrn hin
     generalize (backP l).length = R at *
     generalize (pendingP l).length = P at *
     generalize (invokedP l).length = I at *
     generalize l.length = L at *
     subst pp
     subst lp
     have hs : R + (R + P) ≤ 200 := by omega
     have hs2 : R + P ≤ 200 := by omega
     clear hlt hj hd hlen
     go_wp2_with (first | (go_at_call 11; refine stopAt ?_))
     unfold StopAt
     refine (awake_any _).mono ?_
     rintro e w9 ⟨rfl, hb9⟩
     have HC9 := Lib.hid (HC.out.trans (hb9.mono HC.out.size))
     clear hb9
     go_wp2_with (first | (go_at_call 20; refine stopAt ?_))
     unfold StopAt
     refine (PN.out w9 HC9.out).mono ?_
     rintro e w10 ⟨A10, c10, rfl, hb10⟩
     have HC10 := Lib.hid (HC9.out.trans (hb10.mono HC9.out.size))
     clear hb10
     go_wp2_with (first | (go_at_call 13; refine stopAt ?_))
     unfold StopAt
     refine (IN.out w10 HC10.out).mono ?_
     rintro e w11 ⟨A11, c11, rfl, hb11⟩
     have HC11 := Lib.hid (HC10.out.trans (hb11.mono HC10.out.size))
     clear hb11
     go_wp2_with (first | (go_at_call 13; refine stopAt ?_))
     unfold StopAt
     refine (IN.out w11 HC11.out).mono ?_
     rintro e w12 ⟨A12, c12, rfl, hb12⟩
     have HC12 := Lib.hid (HC11.out.trans (hb12.mono HC11.out.size))
     clear hb12
     go_wp2_with fail
     go_ret
     exact ⟨rfl, B5.out.trans (HC12.out.mono B5.out.size)⟩
end Go.Proofs.YtpabdmcbahmjnaaGreat
