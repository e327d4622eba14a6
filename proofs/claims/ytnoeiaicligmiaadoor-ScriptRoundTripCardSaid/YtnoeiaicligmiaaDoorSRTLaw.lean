/- The walk of ScriptRoundTrip. -/
import Derived.Test.YtnoeiaicligmiaaDoorSRet
import Derived.Test.YtnoeiaicligmiaaDoorSOpen
import Derived.Deep.RegionHeld3
namespace Go.Proofs.YtnoeiaicligmiaaDoor
set_option linter.unusedVariables false
set_option linter.unusedSimpArgs false
open Go Go.RowKit Go.MapKept
theorem fmt_parse (s : ScrD) (ok : ScrOk s) (h : (formatS s).2 = 0) : parseS (formatS s).1 = (s, 0, 0) := by
  unfold formatS at h ⊢
  by_cases hc : checkS s = 0
  · rw [if_neg (by simp [hc])] at h ⊢
    by_cases hl : maxText < (textS s).length
    · rw [if_pos hl] at h
      simp at h
    · rw [if_neg hl]
      exact parse_text s ok hc (by omega)
  · rw [if_pos (by simpa using hc)] at h
    simp at h
theorem fmt_len (s : ScrD) : (formatS s).1.length ≤ 4611686018427387904 := by
  unfold formatS
  split
  · simp
  · split
    · simp
    · have : (textS s).length ≤ maxText := by omega
      unfold maxText at this
      simp only
      omega
/-- the two boxes of the arguments -/
def rtW (w : World) (oa orw : Obj) : World := (w.alloc oa).alloc orw
theorem rtW_below (w : World) (oa orw : Obj) : Below w.heap.size w (rtW w oa orw) := ((Below.refl _ _).alloc (Nat.le_refl _) _).alloc (by simp) _
theorem rtW_0 (w : World) (oa orw : Obj) : (rtW w oa orw).heap[w.heap.size]? = some oa := (Below.heap_alloc _ _ _ (by simp)).trans (heap_alloc w _).1
theorem rtW_1 (w : World) (oa orw : Obj) : (rtW w oa orw).heap[w.heap.size + 1]? = some orw := by
  have h := (heap_alloc (w.alloc oa) orw).1
  rw [show (w.alloc oa).heap.size = w.heap.size + 1 by simp] at h
  exact h
/-- the three scripts lie in a row -/
structure RtAt (w0 : World) (b : Nat) (w : World) : Prop where
  rows : ∀ j, j < 3 → ∃ (s : ScrD) (A D : Option Addr) (c d : Nat), w.cell? ⟨b, j * 3, none⟩ = some (.int .u64 s.mask) ∧ w.cell? ⟨b, j * 3 + 1, none⟩ = some (.slice A s.threads.length c) ∧ w.cell? ⟨b, j * 3 + 2, none⟩ = some (.slice D s.picks.length d) ∧ ScrAt w A D s ∧ ScrOk s
  lt : b < w.heap.size
  below : Below w0.heap.size w0 w
theorem RtAt.above {w0 w w' : World} {b : Nat} (h : RtAt w0 b w) (hb : Below w.heap.size w w') : RtAt w0 b w' :=
  ⟨fun j hj => by
    obtain ⟨s, A, D, c, d, h0, h1, h2, h3, h4⟩ := h.rows j hj
    exact ⟨s, A, D, c, d, (hb.cell (p := ⟨b, _, none⟩) h.lt).trans h0, (hb.cell (p := ⟨b, _, none⟩) h.lt).trans h1, (hb.cell (p := ⟨b, _, none⟩) h.lt).trans h2, h3.below hb, h4⟩, Nat.lt_of_lt_of_le h.lt hb.size, h.below.trans (hb.mono h.below.size)⟩
def RtMid (w0 : World) (v30 v31 v32 : Value) (wx : World) : Prop := ∃ b, v30 = .slice (some ⟨b, 0, none⟩) 3 3 ∧ v31 = .int .i64 3 ∧ v32 = .int .i64 0 ∧ RtAt w0 b wx
theorem rt_mid {w0 w2 : World} {sa sx sy : ScrD} {Aa Da Ax Dx Ay Dy : Option Addr} {ca da cx dx cy dy : Nat} (hb : Below w0.heap.size w0 w2) (ha : ScrAt w2 Aa Da sa) (hx : ScrAt w2 Ax Dx sx) (hy : ScrAt w2 Ay Dy sy) (oka : ScrOk sa) (okx : ScrOk sx) (oky : ScrOk sy) :
    RtMid w0 (.slice (some ⟨w2.heap.size, 0, none⟩) 3 3) (.int .i64 3) (.int .i64 0) (w2.alloc (.cells #[.int .u64 sa.mask, .slice Aa sa.threads.length ca, .slice Da sa.picks.length da, .int .u64 sx.mask, .slice Ax sx.threads.length cx, .slice Dx sx.picks.length dx, .int .u64 sy.mask, .slice Ay sy.threads.length cy, .slice Dy sy.picks.length dy] 32)) := by
  have hn := (heap_alloc w2 (.cells #[.int .u64 sa.mask, .slice Aa sa.threads.length ca, .slice Da sa.picks.length da, .int .u64 sx.mask, .slice Ax sx.threads.length cx, .slice Dx sx.picks.length dx, .int .u64 sy.mask, .slice Ay sy.threads.length cy, .slice Dy sy.picks.length dy] 32)).1
  have ha2 : Below w2.heap.size w2 (w2.alloc (.cells #[.int .u64 sa.mask, .slice Aa sa.threads.length ca, .slice Da sa.picks.length da, .int .u64 sx.mask, .slice Ax sx.threads.length cx, .slice Dx sx.picks.length dx, .int .u64 sy.mask, .slice Ay sy.threads.length cy, .slice Dy sy.picks.length dy] 32)) := (Below.refl _ _).alloc (Nat.le_refl _) _
  refine ⟨w2.heap.size, rfl, rfl, rfl, ⟨fun j hj => ?_, by simp, hb.trans (ha2.mono hb.size)⟩⟩
  match j, hj with
  | 0, _ => exact ⟨sa, Aa, Da, ca, da, blk_cell hn 0, blk_cell hn 1, blk_cell hn 2, ha.below ha2, oka⟩
  | 1, _ => exact ⟨sx, Ax, Dx, cx, dx, blk_cell hn 3, blk_cell hn 4, blk_cell hn 5, hx.below ha2, okx⟩
  | 2, _ => exact ⟨sy, Ay, Dy, cy, dy, blk_cell hn 6, blk_cell hn 7, blk_cell hn 8, hy.below ha2, oky⟩
def RtRel (w0 : World) (b : Nat) (v32 : Value) (wr : World) : Prop := ∃ j : Nat, v32 = .int .i64 j ∧ j ≤ 3 ∧ RtAt w0 b wr
set_option maxRecDepth 100000 in
set_option maxHeartbeats 4000000 in
theorem scriptRoundTrip_walk (Aa : Option Addr) (ca : Nat) (Da : Option Addr) (da : Nat) (sa : ScrD) (l : List UInt8) (A : Option Addr) (n c : Nat) (A2 : Option Addr) (n2 c2 : Nat) (o : OpD) (w : World)
    (ha : ScrAt w Aa Da sa ∧ ScrOk sa ∧ KeysFit sa) (hl : l.length ≤ 140737488351232) (hi : IntsAt w A n) (hi2 : IntsAt w A2 n2) (ho : OpOk o ∧ o.key.size ≤ 140737488351232) (env : Env w) :
    Calls Tryd.prog 4 #[scrV sa.mask Aa sa.threads.length ca Da sa.picks.length da, .string ⟨l.toArray⟩, .slice A n c, .slice A2 n2 c2, opV o] w fun e w' => e = .returned (.bool true) ∧ Below w.heap.size w w' := by
  have HO := Lib.hid ho.1
  have HL := Lib.hid hl
  have E0 := Lib.hid (env.below (rtW_below w (boxS3 sa Aa ca Da da) (opObj o)))
  have WB := Lib.hid (rtW_below w (boxS3 sa Aa ca Da da) (opObj o))
  have HA := Lib.hid (ha.1.below WB.out)
  have OKA := Lib.hid ha.2.1
  have I1 := Lib.hid (hi.below WB.out)
  have I2 := Lib.hid (hi2.below WB.out)
  have K0 := Lib.hid (rtW_0 w (boxS3 sa Aa ca Da da) (opObj o))
  have K1 := Lib.hid (rtW_1 w (boxS3 sa Aa ca Da da) (opObj o))
  clear ha hl hi hi2 ho env
  simp only [scrV, opV]
  go_enter Tryd.func4, Tryd.ntmps4
  go_upto_region 1 with fail
  have hW0 : (w.alloc (.cells #[.int .u64 sa.mask, .slice Aa sa.threads.length ca, .slice Da sa.picks.length da] 32)).alloc (.cells #[.int .i64 o.kind, .int .i64 o.handle, .string o.key, .int .u64 o.value, .int .u64 o.expect] 39) = rtW w (boxS3 sa Aa ca Da da) (opObj o) := rfl
  rw [hW0]
  clear hW0
  generalize rtW w (boxS3 sa Aa ca Da da) (opObj o) = W0 at *
  have z0 : w.heap.size < W0.heap.size := (Array.getElem?_eq_some_iff.1 K0.out).1
  have z1 : w.heap.size + 1 < W0.heap.size := (Array.getElem?_eq_some_iff.1 K1.out).1
  have KEEP : Hid (∀ W, Below W0.heap.size W0 W → (W.cell? ⟨w.heap.size, 0, none⟩ = some (.int .u64 sa.mask) ∧ W.cell? ⟨w.heap.size, 1, none⟩ = some (.slice Aa sa.threads.length ca) ∧ W.cell? ⟨w.heap.size, 2, none⟩ = some (.slice Da sa.picks.length da) ∧
      W.cell? ⟨w.heap.size + 1, 0, none⟩ = some (.int .i64 o.kind) ∧ W.cell? ⟨w.heap.size + 1, 1, none⟩ = some (.int .i64 o.handle) ∧ W.cell? ⟨w.heap.size + 1, 2, none⟩ = some (.string o.key) ∧ W.cell? ⟨w.heap.size + 1, 3, none⟩ = some (.int .u64 o.value) ∧ W.cell? ⟨w.heap.size + 1, 4, none⟩ = some (.int .u64 o.expect))) := fun W hb => by
    obtain ⟨a0, a1, a2⟩ := box_cells K0.out W hb
    obtain ⟨b0, b1, b2, b3, b4⟩ := op_cells ((hb.block _ z1).trans K1.out)
    exact ⟨a0, a1, a2, b0, b1, b2, b3, b4⟩
  clear z0 z1
  have BD : Hid (Below W0.heap.size W0 W0.drew) := (Below.refl _ _).drew
  go_cut [30, 31, 32] (fun v30 v31 v32 wx => RtMid W0 v30 v31 v32 wx)
  case first =>
    go_region_held3 (fun W => (W.cell? ⟨w.heap.size, 0, none⟩ = some (.int .u64 sa.mask) ∧ W.cell? ⟨w.heap.size, 1, none⟩ = some (.slice Aa sa.threads.length ca) ∧ W.cell? ⟨w.heap.size, 2, none⟩ = some (.slice Da sa.picks.length da) ∧ W.cell? ⟨w.heap.size + 1, 0, none⟩ = some (.int .i64 o.kind) ∧ W.cell? ⟨w.heap.size + 1, 1, none⟩ = some (.int .i64 o.handle) ∧ W.cell? ⟨w.heap.size + 1, 2, none⟩ = some (.string o.key) ∧ W.cell? ⟨w.heap.size + 1, 3, none⟩ = some (.int .u64 o.value) ∧ W.cell? ⟨w.heap.size + 1, 4, none⟩ = some (.int .u64 o.expect))) (first | exact KEEP.out _ B3.out | exact KEEP.out _ B2.out | exact KEEP.out _ B1.out | exact KEEP.out _ BD.out) (first | ((have hx := X1); clear hx; go_at_call 14; (refine (wild_scr _ A n c ?hi A2 n2 c2 ?hi2 o HO.out).mono ?_); (case hi => exact I1.out.below B1.out); (case hi2 => exact I2.out.below B1.out); rintro e w2 ⟨sy, Ay, cy, Dy, dy, he, hy, oky, hb2⟩; (simp only [scrV] at he); subst he; (have Y2 := Lib.hid hy); (have YOK := Lib.hid oky); (have X2 := Lib.hid (X1.out.below hb2)); (have B2 := Lib.hid (B1.out.trans (hb2.mono B1.out.size))); (have B3 := Lib.hid (B2.out.alloc B2.out.size (.cells #[.int .u64 sa.mask, .slice Aa sa.threads.length ca, .slice Da sa.picks.length da, .int .u64 sx.mask, .slice Ax sx.threads.length cx, .slice Dx sx.picks.length dx, .int .u64 sy.mask, .slice Ay sy.threads.length cy, .slice Dy sy.picks.length dy] 32))); clear hy hb2 oky) | (go_at_call 10; (refine (gen_scr _ A n c ?hi).mono ?_); (case hi => exact I1.out.below BD.out); rintro e w1 ⟨sx, Ax, cx, Dx, dx, he, hx1, okx, hb1⟩; (simp only [scrV] at he); subst he; (have X1 := Lib.hid hx1); (have XOK := Lib.hid okx); (have B1 : Hid (Below W0.heap.size W0 w1) := BD.out.trans hb1); clear hx1 hb1 okx))
    all_goals
      go_wp2_with fail
      go_meet
      exact rt_mid B2.out (HA.out.below B2.out) X2.out Y2.out OKA.out XOK.out YOK.out
  case rest =>
    obtain ⟨b, rfl, rfl, rfl, hR⟩ := hcut
    have R0 := Lib.hid hR
    clear hR KEEP BD I1 I2 HO HA OKA K0 K1
    go_wp2_with fail
    go_loopw [32] (fun v32 wr => RtRel W0 b v32 wr) (fun v32 _ => 3 - (intOf v32).toNat)
    case atStart => exact ⟨0, rfl, by omega, R0.out⟩
    case round =>
      obtain ⟨j, rfl, hj, hR⟩ := hrel
      clear R0
      have R := Lib.hid hR
      by_cases hj3 : j < 3
      · obtain ⟨s, As, Ds, cs, ds, k0, k1, k2, hs, ok⟩ := hR.rows j hj3
        have HS := Lib.hid hs
        have OK := Lib.hid ok
        have hj0 : (j : Int) < 3 := by omega
        clear hR hs ok
        go_wp2_with fail
        have BA : Below wr.heap.size wr (wr.alloc (.cells #[.int .u64 s.mask, .slice As s.threads.length cs, .slice Ds s.picks.length ds] 32)) := (Below.refl _ _).alloc (Nat.le_refl _) _
        have B1 := Lib.hid BA
        have KX : Hid ((wr.alloc (.cells #[.int .u64 s.mask, .slice As s.threads.length cs, .slice Ds s.picks.length ds] 32)).heap[wr.heap.size]? = some (boxS3 s As cs Ds ds)) := (heap_alloc wr _).1
        clear BA
        refine (small_any _ As Ds cs ds s (HS.out.below B1.out)).mono ?_
        rintro e w3 ⟨rfl, hb3⟩
        have B3 : Hid (Below wr.heap.size wr w3) := B1.out.trans (hb3.mono B1.out.size)
        have KX3 : Hid (w3.heap[wr.heap.size]? = some (boxS3 s As cs Ds ds)) := (hb3.block _ (by simp)).trans KX.out
        clear hb3 KX B1
        cases hsm : smallS s with
        | false =>
          clear hsm
          go_wp2_with fail
          refine ⟨⟨j + 1, by go_num, by omega, R.out.above B3.out⟩, by simp [intOf]; omega⟩
        | true =>
          clear hsm
          obtain ⟨x0, x1, x2⟩ := box_cells KX3.out w3 (Below.refl _ _)
          have hxl : wr.heap.size < w3.heap.size := (Array.getElem?_eq_some_iff.1 KX3.out).1
          go_wp2_with fail
          have E3 := Lib.hid (E0.out.below (R.out.below.trans (B3.out.mono R.out.below.size)))
          refine (format_any _ As Ds cs ds s (HS.out.below B3.out) OK.out E3.out.tab).mono ?_
          rintro e w4 ⟨he, hb4⟩
          have B4 : Hid (Below wr.heap.size wr w4) := B3.out.trans (hb4.mono B3.out.size)
          have KX4 : Hid (w4.heap[wr.heap.size]? = some (boxS3 s As cs Ds ds)) := (hb4.block _ hxl).trans KX3.out
          have E4 := Lib.hid (E3.out.below hb4)
          have FP := Lib.hid (fmt_parse s OK.out)
          have FL := Lib.hid (fmt_len s)
          generalize hF : (formatS s).1 = txt at *
          generalize hV : (formatS s).2 = code at *
          subst he
          clear hF hV hb4 x0 x1 x2 KX3 E3 B3
          obtain ⟨mx, hmx⟩ := E4.out.max
          go_wp2_with fail
          refine (parse_any _ mx hmx txt FL.out).mono ?_
          rintro e w5 ⟨Ap, cp, Dp, dp, he, hs5, hb5⟩
          have B5 : Hid (Below wr.heap.size wr w5) := B4.out.trans (hb5.mono B4.out.size)
          have hxl4 : wr.heap.size < w4.heap.size := (Array.getElem?_eq_some_iff.1 KX4.out).1
          have KX5 : Hid (w5.heap[wr.heap.size]? = some (boxS3 s As cs Ds ds)) := (hb5.block _ hxl4).trans KX4.out
          clear hb5 hmx hxl4 KX4 E4 B4
          by_cases hc : code = 0
          · subst hc
            have hp := FP.out rfl
            rw [hp] at he hs5
            simp only [scrV] at he
            subst he
            have P5 := Lib.hid hs5
            clear hs5 hp FP
            obtain ⟨x0, x1, x2⟩ := box_cells KX5.out w5 (Below.refl _ _)
            have hxl5 : wr.heap.size < w5.heap.size := (Array.getElem?_eq_some_iff.1 KX5.out).1
            go_wp2_with fail
            have BA : Below w5.heap.size w5 (w5.alloc (.cells #[.int .u64 s.mask, .slice Ap s.threads.length cp, .slice Dp s.picks.length dp] 32)) := (Below.refl _ _).alloc (Nat.le_refl _) _
            refine (requal_same _ As Ds Ap Dp cs ds cp dp s (HS.out.below (B5.out.trans (BA.mono B5.out.size))) (P5.out.below BA)).mono ?_
            rintro e w6 ⟨rfl, hb6⟩
            have B6 : Hid (Below wr.heap.size wr w6) := (B5.out.trans (BA.mono B5.out.size)).trans (hb6.mono (B5.out.trans (BA.mono B5.out.size)).size)
            clear hb6 BA x0 x1 x2
            go_wp2_with fail
            refine ⟨⟨j + 1, by go_num, by omega, R.out.above B6.out⟩, by simp [intOf]; omega⟩
          · have hc' : (code == 0) = false := by simpa using hc
            generalize (parseS txt).1 = sp at he hs5
            generalize (parseS txt).2.1 = np at he
            generalize (parseS txt).2.2 = ep at he
            simp only [scrV] at he
            subst he
            clear hs5 FP hc
            go_wp2_with fail
            have B6 : Hid (Below wr.heap.size wr (w5.alloc (.cells #[.int .u64 sp.mask, .slice Ap sp.threads.length cp, .slice Dp sp.picks.length dp] 32))) := B5.out.alloc B5.out.size _
            refine ⟨⟨j + 1, by go_num, by omega, R.out.above B6.out⟩, by simp [intOf]; omega⟩
      · obtain rfl : j = 3 := by omega
        have E1 := Lib.hid (E0.out.below R.out.below)
        obtain ⟨mx, hmx⟩ := E1.out.max
        clear hR
        go_wp2_with fail
        refine (parse_any _ mx hmx l (by have := HL.out; omega)).mono ?_
        rintro e w5 ⟨Ap, cp, Dp, dp, he, hs5, hb5⟩
        have B5 : Hid (Below w.heap.size w w5) := WB.out.trans ((R.out.below.trans (hb5.mono R.out.below.size)).mono WB.out.size)
        have E5 := Lib.hid (E1.out.below hb5)
        clear hb5 hmx
        have TP : Hid (∀ p n, parseS l = (p, n, 0) → formatS p = (l, 0) ∧ ScrOk p) := fun p n h => text_parse h
        obtain ⟨sp, np, ep, hpe⟩ : ∃ sp np ep, parseS l = (sp, np, ep) := ⟨_, _, _, rfl⟩
        have HPE := Lib.hid hpe
        rw [hpe] at he hs5
        simp only [scrV] at he
        subst he
        have P5 := Lib.hid hs5
        clear hpe hs5
        by_cases hc : ep = 0
        · subst hc
          obtain ⟨hf, okp⟩ := TP.out _ _ HPE.out
          have FM := Lib.hid hf
          have OKP := Lib.hid okp
          clear hf okp TP HPE
          go_wp2_with fail
          have BA : Below w5.heap.size w5 (w5.alloc (.cells #[.int .u64 sp.mask, .slice Ap sp.threads.length cp, .slice Dp sp.picks.length dp] 32)) := (Below.refl _ _).alloc (Nat.le_refl _) _
          have E6 := Lib.hid (E5.out.below BA)
          have fm := format_any _ Ap Dp cp dp sp (P5.out.below BA) OKP.out E6.out.tab
          rw [FM.out] at fm
          refine fm.mono ?_
          rintro e w6 ⟨rfl, hb6⟩
          have B6 : Hid (Below w.heap.size w w6) := (B5.out.trans (BA.mono B5.out.size)).trans (hb6.mono (B5.out.trans (BA.mono B5.out.size)).size)
          have E7 := Lib.hid (E6.out.below hb6)
          clear hb6 BA fm
          go_wp2_with fail
          refine (awake_any _ E7.out).mono ?_
          rintro e w7 ⟨rfl, hb7⟩
          have B7 := Lib.hid (B6.out.trans (hb7.mono B6.out.size))
          clear hb7
          go_wp2_with fail
          go_ret
          exact ⟨rfl, B7.out⟩
        · have hc' : (ep == 0) = false := by simpa using hc
          clear TP HPE hc
          go_wp2_with fail
          have BA : Below w5.heap.size w5 (w5.alloc (.cells #[.int .u64 sp.mask, .slice Ap sp.threads.length cp, .slice Dp sp.picks.length dp] 32)) := (Below.refl _ _).alloc (Nat.le_refl _) _
          refine (awake_any _ (E5.out.below BA)).mono ?_
          rintro e w7 ⟨rfl, hb7⟩
          have B7 := Lib.hid ((B5.out.trans (BA.mono B5.out.size)).trans (hb7.mono (B5.out.trans (BA.mono B5.out.size)).size))
          clear hb7 BA
          go_wp2_with fail
          go_ret
          exact ⟨rfl, B7.out⟩
end Go.Proofs.YtnoeiaicligmiaaDoor
