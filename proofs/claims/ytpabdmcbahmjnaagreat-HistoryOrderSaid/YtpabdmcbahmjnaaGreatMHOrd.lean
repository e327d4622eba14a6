/- The walk of the law HistoryOrder. -/
import Derived.Test.YtpabdmcbahmjnaaGreatMW25
namespace Go.Proofs.YtpabdmcbahmjnaaGreat
open Go Go.RowKit Go.MapKept
set_option linter.unusedSimpArgs false
set_option linter.unusedVariables false
def AtB (w5 : World) (n : Nat) (i : Value) (wr : World) : Prop := ∃ j : Nat, j ≤ n ∧ i = .int .i64 j ∧ Below w5.heap.size w5 wr
set_option maxRecDepth 100000 in
set_option maxHeartbeats 8000000 in
theorem historyOrder_walk (A : Option Addr) (n c : Nat) (w : World) (hi : Sc.IntsAt w A n) :
  Calls Tryz.prog 4 #[.slice A n c] w fun e w' => e = .returned (.bool true) ∧ Below w.heap.size w w' := by
 go_enter Tryz.func4, Tryz.ntmps4
 go_wp2_with (first | (go_at_call 8; refine stopAt ?_))
 unfold StopAt
 refine (gen_s w A n c hi).mono ?_
 rintro e w1 ⟨v, ts, rfl, hg, hb1⟩
 have B1 := Lib.hid hb1
 go_wp2_with (first | (go_at_call 7; refine stopAt ?_))
 unfold StopAt
 refine (new_s hg).mono ?_
 rintro e w2 ⟨p, rfl, hn⟩
 clear hg hb1
 go_wp2_with (first | (go_at_call 9; refine stopAt ?_))
 unfold StopAt
 refine (run_s hn).mono ?_
 rintro e w3 ⟨⟨v', rfl⟩, hb3, l, hok, hm⟩
 have B3 := Lib.hid (B1.out.trans (hb3.mono B1.out.size))
 have MO := Lib.hid hok
 obtain ⟨p0, _, E1, d1, z2, hd, he1⟩ := hm
 have HE := Lib.hid he1
 have hlen := MO.out.len
 clear hn hb3 hok he1
 go_wp2_with (first | (go_at_call 13; refine stopAt ?_))
 unfold StopAt
 refine (hinvoked_any w3 E1 d1 l MO.out.fit HE.out).mono ?_
 rintro e w5 ⟨A2, c2, rfl, ho, hb5⟩
 have B5 := Lib.hid (B3.out.trans (hb5.mono B3.out.size))
 have O5 := Lib.hid ho
 have E5 := Lib.hid (HE.out.below hb5)
 have IF := Lib.hid (inv_fitH MO.out.fit)
 have hin : (invokedP l).length ≤ l.length := invN_len l l.length
 clear ho hb5 z2
 have BF : Hid (∀ W, Below w5.heap.size w5 W → ∀ a b : OpP, OpFit a → OpFit b → Calls Tryz.prog 14 #[.slice E1 l.length d1, .agg #[.int .i64 a.1, .int .i64 a.2], .agg #[.int .i64 b.1, .int .i64 b.2]] W fun e w' => e = .returned (.bool (beforeP l a b)) ∧ Below W.heap.size W w') := fun W hW a b fa fb =>
  hbefore_any W E1 d1 l MO.out.fit (E5.out.below hW) a b fa fb
 generalize hinv : invokedP l = I at *
 go_wp2_with fail
 go_loopw [29] (fun i wr => AtB w5 I.length i wr) (fun i _ => I.length - (intOf i).toNat)
 case atStart => exact ⟨0, by omega, rfl, Below.refl _ _⟩
 case round =>
  obtain ⟨j, hj, rfl, hbw⟩ := hrel
  have HB := Lib.hid hbw
  clear hbw
  by_cases hlt : j < I.length
  ·obtain ⟨a, hx⟩ : ∃ a, I[j]? = some a := ⟨_, List.getElem?_eq_getElem hlt⟩
   obtain ⟨b, off, rfl, hb, hc⟩ := (O5.out.below HB.out) (by omega)
   obtain ⟨z0, z1⟩ := hc j a hx
   have FA := Lib.hid (IF.out a (List.mem_of_getElem? hx))
   have IA := Lib.hid (before_irr MO.out.prop a)
   have hj0 : (0 : Int) ≤ j := by omega
   have hj1 : (j : Int) < I.length := by omega
   clear hx hc
   obtain ⟨a0, a1⟩ := a
   simp only at z0 z1
   go_upto_region 8 with fail
   obtain ⟨W1, hW1⟩ : ∃ W1, W1 = wr.alloc (.cells #[.int .i64 a0, .int .i64 a1] 44) := ⟨_, rfl⟩
   have HB1 : Hid (Below w5.heap.size w5 W1) := by rw [hW1]; exact HB.out.alloc HB.out.size _
   have KA : Hid (W1.heap[wr.heap.size]? = some (opBox (a0, a1))) := by rw [hW1]; exact (heap_alloc wr _).1
   rw [← hW1]
   clear hW1 z0 z1
   generalize wr.heap.size = za at *
   obtain ⟨x0, x1⟩ := opBox_cells KA.out
   simp only at x0 x1
   go_wp2_with (first | (go_at_call 14; refine stopAt ?_))
   unfold StopAt
   refine (BF.out W1 HB1.out (a0, a1) (a0, a1) FA.out FA.out).mono ?_
   rintro e W2 ⟨rfl, hb2⟩
   rw [IA.out]
   have HB2 := Lib.hid (HB1.out.trans (hb2.mono HB1.out.size))
   have KA2 := Lib.hid (kept_block' KA.out hb2)
   clear hb2 x0 x1 KA
   go_wp2_with fail
   go_loopw [39] (fun i wr => AtB W2 I.length i wr) (fun i _ => I.length - (intOf i).toNat)
   case atStart => exact ⟨0, by omega, rfl, Below.refl _ _⟩
   case round =>
    obtain ⟨k, hk, rfl, hbw⟩ := hrel
    have HC := Lib.hid hbw
    clear hbw
    by_cases hlt2 : k < I.length
    ·obtain ⟨b', hy⟩ : ∃ b', I[k]? = some b' := ⟨_, List.getElem?_eq_getElem hlt2⟩
     obtain ⟨b2, off2, he2, hb2, hc2⟩ := (O5.out.below (HB2.out.trans (HC.out.mono HB2.out.size))) (by omega)
     simp only [Option.some.injEq, Addr.mk.injEq, and_true] at he2
     obtain ⟨rfl, rfl⟩ := he2
     obtain ⟨z0, z1⟩ := hc2 k b' hy
     have FB := Lib.hid (IF.out b' (List.mem_of_getElem? hy))
     have AS := Lib.hid (fun h => before_asym (a := (a0, a1)) (b := b') MO.out.prop h)
     have hk0 : (0 : Int) ≤ k := by omega
     have hk1 : (k : Int) < I.length := by omega
     clear hy hc2
     obtain ⟨b0, b1⟩ := b'
     simp only at z0 z1
     go_upto_region 13 with fail
     obtain ⟨W3, hW3⟩ : ∃ W3, W3 = wr.alloc (.cells #[.int .i64 b0, .int .i64 b1] 44) := ⟨_, rfl⟩
     have HC3 : Hid (Below W2.heap.size W2 W3) := by rw [hW3]; exact HC.out.alloc HC.out.size _
     have KB : Hid (W3.heap[wr.heap.size]? = some (opBox (b0, b1))) := by rw [hW3]; exact (heap_alloc wr _).1
     rw [← hW3]
     clear hW3 z0 z1
     generalize wr.heap.size = zb at *
     have HB3 := Lib.hid (HB2.out.trans (HC3.out.mono HB2.out.size))
     have KA3 := Lib.hid (kept_block' KA2.out HC3.out)
     obtain ⟨x0, x1⟩ := opBox_cells KA3.out
     obtain ⟨y0, y1⟩ := opBox_cells KB.out
     simp only at x0 x1 y0 y1
     cases hv : beforeP l (a0, a1) (b0, b1) with
     | false =>
      have HV := Lib.hid hv
      clear hv
      go_wp2_with (first | (go_at_call 14; refine stopAt ?_))
      unfold StopAt
      refine (BF.out W3 HB3.out (a0, a1) (b0, b1) FA.out FB.out).mono ?_
      rintro e W4 ⟨rfl, hbW4⟩
      rw [HV.out]
      have hbL := hbW4
      clear hbW4
      have HC4 := Lib.hid (HC3.out.trans (hbL.mono HC3.out.size))
      have HB4 := Lib.hid (HB3.out.trans (hbL.mono HB3.out.size))
      have KA4 := Lib.hid (kept_block' KA3.out hbL)
      have KB4 := Lib.hid (kept_block' KB.out hbL)
      clear hbL x0 x1 y0 y1
      go_wp2_with fail
      go_loopw [55] (fun i wr => AtB W4 I.length i wr) (fun i _ => I.length - (intOf i).toNat)
      case atStart => exact ⟨0, by omega, rfl, Below.refl _ _⟩
      case round =>
       obtain ⟨m, hm, rfl, hbw⟩ := hrel
       have HD := Lib.hid hbw
       clear hbw
       by_cases hlt3 : m < I.length
       ·obtain ⟨c', hz⟩ : ∃ c', I[m]? = some c' := ⟨_, List.getElem?_eq_getElem hlt3⟩
        obtain ⟨b3, off3, he3, hb3, hc3⟩ := (O5.out.below (HB4.out.trans (HD.out.mono HB4.out.size))) (by omega)
        simp only [Option.some.injEq, Addr.mk.injEq, and_true] at he3
        obtain ⟨rfl, rfl⟩ := he3
        obtain ⟨z0, z1⟩ := hc3 m c' hz
        have FC := Lib.hid (IF.out c' (List.mem_of_getElem? hz))
        have AT := Lib.hid (fun h h' => before_tran (a := (a0, a1)) (b := (b0, b1)) (c := c') MO.out.prop h h')
        have hm0 : (0 : Int) ≤ m := by omega
        have hm1 : (m : Int) < I.length := by omega
        clear hz hc3
        obtain ⟨c0, c1⟩ := c'
        simp only at z0 z1
        go_upto_region 18 with fail
        obtain ⟨W5, hW5⟩ : ∃ W5, W5 = wr.alloc (.cells #[.int .i64 c0, .int .i64 c1] 44) := ⟨_, rfl⟩
        have HD5 : Hid (Below W4.heap.size W4 W5) := by rw [hW5]; exact HD.out.alloc HD.out.size _
        have KC : Hid (W5.heap[wr.heap.size]? = some (opBox (c0, c1))) := by rw [hW5]; exact (heap_alloc wr _).1
        rw [← hW5]
        clear hW5 z0 z1
        generalize wr.heap.size = zc at *
        have HB5 := Lib.hid (HB4.out.trans (HD5.out.mono HB4.out.size))
        have KA5 := Lib.hid (kept_block' KA4.out HD5.out)
        have KB5 := Lib.hid (kept_block' KB4.out HD5.out)
        obtain ⟨x0, x1⟩ := opBox_cells KA5.out
        obtain ⟨y0, y1⟩ := opBox_cells KB5.out
        obtain ⟨w0, w1'⟩ := opBox_cells KC.out
        simp only at x0 x1 y0 y1 w0 w1'
        go_wp2_with (first | (go_at_call 14; refine stopAt ?_))
        unfold StopAt
        refine (BF.out W5 HB5.out (a0, a1) (b0, b1) FA.out FB.out).mono ?_
        rintro e W6 ⟨rfl, hbW6⟩
        rw [HV.out]
        have HD6 := Lib.hid (HD5.out.trans (hbW6.mono HD5.out.size))
        clear hbW6
        go_wp2_with fail
        go_roundw
        case rel => exact ⟨m + 1, by omega, by go_num, HD6.out⟩
        case measure => simp [intOf]; omega
       ·have HC9 := Lib.hid (HC4.out.trans (HD.out.mono HC4.out.size))
        go_wp2_with fail
        go_roundw
        case rel => exact ⟨k + 1, by omega, by go_num, HC9.out⟩
        case measure => simp [intOf]; omega
     | true =>
      have HV := Lib.hid hv
      have HVb := Lib.hid (AS.out hv)
      clear hv
      go_wp2_with (first | (go_at_call 14; refine stopAt ?_))
      unfold StopAt
      refine (BF.out W3 HB3.out (a0, a1) (b0, b1) FA.out FB.out).mono ?_
      rintro e Wm ⟨rfl, hbWm⟩
      rw [HV.out]
      have HBm := Lib.hid (HB3.out.trans (hbWm.mono HB3.out.size))
      have KAm := Lib.hid (kept_block' KA3.out hbWm)
      have KBm := Lib.hid (kept_block' KB.out hbWm)
      clear x0 x1 y0 y1
      obtain ⟨x0, x1⟩ := opBox_cells KAm.out
      obtain ⟨y0, y1⟩ := opBox_cells KBm.out
      simp only at x0 x1 y0 y1
      go_wp2_with (first | (go_at_call 14; refine stopAt ?_))
      unfold StopAt
      refine (BF.out Wm HBm.out (b0, b1) (a0, a1) FB.out FA.out).mono ?_
      rintro e W4 ⟨rfl, hbW4⟩
      rw [HVb.out]
      have hbL := hbWm.trans (hbW4.mono hbWm.size)
      clear hbW4 hbWm HBm KAm KBm
      have HC4 := Lib.hid (HC3.out.trans (hbL.mono HC3.out.size))
      have HB4 := Lib.hid (HB3.out.trans (hbL.mono HB3.out.size))
      have KA4 := Lib.hid (kept_block' KA3.out hbL)
      have KB4 := Lib.hid (kept_block' KB.out hbL)
      clear hbL x0 x1 y0 y1
      go_wp2_with fail
      go_loopw [55] (fun i wr => AtB W4 I.length i wr) (fun i _ => I.length - (intOf i).toNat)
      case atStart => exact ⟨0, by omega, rfl, Below.refl _ _⟩
      case round =>
       obtain ⟨m, hm, rfl, hbw⟩ := hrel
       have HD := Lib.hid hbw
       clear hbw
       by_cases hlt3 : m < I.length
       ·obtain ⟨c', hz⟩ : ∃ c', I[m]? = some c' := ⟨_, List.getElem?_eq_getElem hlt3⟩
        obtain ⟨b3, off3, he3, hb3, hc3⟩ := (O5.out.below (HB4.out.trans (HD.out.mono HB4.out.size))) (by omega)
        simp only [Option.some.injEq, Addr.mk.injEq, and_true] at he3
        obtain ⟨rfl, rfl⟩ := he3
        obtain ⟨z0, z1⟩ := hc3 m c' hz
        have FC := Lib.hid (IF.out c' (List.mem_of_getElem? hz))
        have AT := Lib.hid (fun h h' => before_tran (a := (a0, a1)) (b := (b0, b1)) (c := c') MO.out.prop h h')
        have hm0 : (0 : Int) ≤ m := by omega
        have hm1 : (m : Int) < I.length := by omega
        clear hz hc3
        obtain ⟨c0, c1⟩ := c'
        simp only at z0 z1
        go_upto_region 18 with fail
        obtain ⟨W5, hW5⟩ : ∃ W5, W5 = wr.alloc (.cells #[.int .i64 c0, .int .i64 c1] 44) := ⟨_, rfl⟩
        have HD5 : Hid (Below W4.heap.size W4 W5) := by rw [hW5]; exact HD.out.alloc HD.out.size _
        have KC : Hid (W5.heap[wr.heap.size]? = some (opBox (c0, c1))) := by rw [hW5]; exact (heap_alloc wr _).1
        rw [← hW5]
        clear hW5 z0 z1
        generalize wr.heap.size = zc at *
        have HB5 := Lib.hid (HB4.out.trans (HD5.out.mono HB4.out.size))
        have KA5 := Lib.hid (kept_block' KA4.out HD5.out)
        have KB5 := Lib.hid (kept_block' KB4.out HD5.out)
        obtain ⟨x0, x1⟩ := opBox_cells KA5.out
        obtain ⟨y0, y1⟩ := opBox_cells KB5.out
        obtain ⟨w0, w1'⟩ := opBox_cells KC.out
        simp only at x0 x1 y0 y1 w0 w1'
        go_wp2_with (first | (go_at_call 14; refine stopAt ?_))
        unfold StopAt
        refine (BF.out W5 HB5.out (a0, a1) (b0, b1) FA.out FB.out).mono ?_
        rintro e W6 ⟨rfl, hbW6⟩
        rw [HV.out]
        have HD6 := Lib.hid (HD5.out.trans (hbW6.mono HD5.out.size))
        have HB6 := Lib.hid (HB4.out.trans (HD6.out.mono HB4.out.size))
        have KA6 := Lib.hid (kept_block' KA5.out hbW6)
        have KB6 := Lib.hid (kept_block' KB5.out hbW6)
        have KC6 := Lib.hid (kept_block' KC.out hbW6)
        clear hbW6 x0 x1 y0 y1 w0 w1'
        obtain ⟨x0, x1⟩ := opBox_cells KA6.out
        obtain ⟨y0, y1⟩ := opBox_cells KB6.out
        obtain ⟨w0, w1'⟩ := opBox_cells KC6.out
        simp only at x0 x1 y0 y1 w0 w1'
        cases hv2 : beforeP l (b0, b1) (c0, c1) with
        | false =>
         have HV2 := Lib.hid hv2
         clear hv2
         go_wp2_with (first | (go_at_call 14; refine stopAt ?_))
         unfold StopAt
         refine (BF.out W6 HB6.out (b0, b1) (c0, c1) FB.out FC.out).mono ?_
         rintro e W7 ⟨rfl, hbW7⟩
         rw [HV2.out]
         have HD7 := Lib.hid (HD6.out.trans (hbW7.mono HD6.out.size))
         clear hbW7
         go_wp2_with fail
         go_roundw
         case rel => exact ⟨m + 1, by omega, by go_num, HD7.out⟩
         case measure => simp [intOf]; omega
        | true =>
         have HV2 := Lib.hid hv2
         have HV3 := Lib.hid (AT.out HV.out hv2)
         clear hv2
         go_wp2_with (first | (go_at_call 14; refine stopAt ?_))
         unfold StopAt
         refine (BF.out W6 HB6.out (b0, b1) (c0, c1) FB.out FC.out).mono ?_
         rintro e W7 ⟨rfl, hbW7⟩
         rw [HV2.out]
         have HD7 := Lib.hid (HD6.out.trans (hbW7.mono HD6.out.size))
         have HB7 := Lib.hid (HB6.out.trans (hbW7.mono HB6.out.size))
         have KA7 := Lib.hid (kept_block' KA6.out hbW7)
         have KC7 := Lib.hid (kept_block' KC6.out hbW7)
         clear hbW7 x0 x1 y0 y1 w0 w1'
         obtain ⟨x0, x1⟩ := opBox_cells KA7.out
         obtain ⟨w0, w1'⟩ := opBox_cells KC7.out
         simp only at x0 x1 w0 w1'
         go_wp2_with (first | (go_at_call 14; refine stopAt ?_))
         unfold StopAt
         refine (BF.out W7 HB7.out (a0, a1) (c0, c1) FA.out FC.out).mono ?_
         rintro e W8 ⟨rfl, hbW8⟩
         rw [HV3.out]
         have HD8 := Lib.hid (HD7.out.trans (hbW8.mono HD7.out.size))
         clear hbW8
         go_wp2_with fail
         go_roundw
         case rel => exact ⟨m + 1, by omega, by go_num, HD8.out⟩
         case measure => simp [intOf]; omega
       ·have HC9 := Lib.hid (HC4.out.trans (HD.out.mono HC4.out.size))
        go_wp2_with fail
        go_roundw
        case rel => exact ⟨k + 1, by omega, by go_num, HC9.out⟩
        case measure => simp [intOf]; omega
    ·have HB9 := Lib.hid (HB2.out.trans (HC.out.mono HB2.out.size))
     go_wp2_with fail
     go_roundw
     case rel => exact ⟨j + 1, by omega, by go_num, HB9.out⟩
     case measure => simp [intOf]; omega
  ·have B9 := Lib.hid (B5.out.trans (HB.out.mono B5.out.size))
   go_wp2_with (first | (go_at_call 11; refine stopAt ?_))
   unfold StopAt
   refine (awake_any wr).mono ?_
   rintro e w9 ⟨rfl, hb9⟩
   have B10 := Lib.hid (B9.out.trans (hb9.mono B9.out.size))
   clear hb9
   go_wp2_with fail
   go_ret
   exact ⟨rfl, B10.out⟩
end Go.Proofs.YtpabdmcbahmjnaaGreat
