/- The walk of the law HistoryExact. -/
import Derived.Test.YtpabdmcbahmjnaaGreatMW25
import Derived.Test.YtpabdmcbahmjnaaGreatMHAgr
import Derived.Test.YtpabdmcbahmjnaaGreatMHC
import Derived.Deep.DeepCutAuto
namespace Go.Proofs.YtpabdmcbahmjnaaGreat
open Go Go.RowKit Go.MapKept
set_option linter.unusedSimpArgs false
set_option linter.unusedVariables false
theorem ThrAt.take {w : World} {A : Option Addr} {ts : List (List OpD)} (h : ThrAt w A ts) (n : Nat) : ThrAt w A (ts.take n) := fun h0 => by
 obtain ⟨b, off, e1, e2, e3⟩ := h (by rw [List.length_take] at h0; omega)
 refine ⟨b, off, e1, e2, fun k t hk => e3 k t ?_⟩
 rw [List.getElem?_take] at hk
 split at hk
 ·exact hk
 ·cases hk
theorem ThrFit.take {ts : List (List OpD)} (h : ThrFit ts) (n : Nat) : ThrFit (ts.take n) :=
 ⟨by have := h.len; rw [List.length_take]; omega, fun t ht => h.each t (List.mem_of_mem_take ht)⟩
theorem fit_take {l : List EvD} (h : ∀ e ∈ l, I64 e.thread ∧ I64 e.index ∧ e.res.Fit) : EvsFit (l.take 40) :=
 ⟨by rw [List.length_take]; omega, fun e he => (h e (List.mem_of_mem_take he)).1, fun e he => (h e (List.mem_of_mem_take he)).2.1, fun e he => (h e (List.mem_of_mem_take he)).2.2⟩
theorem MaOk.small {ts : List (List OpD)} {l : List EvD} (h : MaOk ts l) : ∀ e ∈ l, (0 ≤ e.thread ∧ e.thread ≤ 1000) ∧ (0 ≤ e.index ∧ e.index ≤ 1000) := fun e he => by
 obtain ⟨i, hi, rfl⟩ := List.getElem_of_mem he
 have ok := h.prop i _ (List.getElem?_eq_getElem hi)
 have t0 := ok.t0
 have t1 := ok.t1
 have x := ok.idx
 rw [lens_len] at t1
 have := h.n
 have := h.len
 have := cntT_le l i l[i].thread
 omega
theorem modI_fit (v m : Int) (h1 : 1 ≤ m) (h2 : m ≤ 100) : -1 ≤ Sc.modI v m - 1 ∧ 0 ≤ Sc.modI v m ∧ Sc.modI v m ≤ 100 := by
 have := Sc.modI_bd v m h1
 omega
set_option maxRecDepth 100000 in
set_option maxHeartbeats 8000000 in
theorem historyExact_walk (A B C : Option Addr) (ca cb n cc : Nat) (l : List EvD) (ts : List (List OpD)) (a b : OpP) (p q : Int) (w : World) (hlc : l.length ≤ ca) (hA : EvsAt w A l) (hl : ∀ e ∈ l, I64 e.thread ∧ I64 e.index ∧ e.res.Fit) (htc : ts.length ≤ cb) (hB : ThrAt w B ts) (ft : ThrFit ts)
  (hi : Sc.IntsAt w C n) (fa : OpFit a) (fb : OpFit b) (hp : I64 p) (hq : I64 q) :
  Calls Tryz.prog 5 #[.slice A l.length ca, .slice B ts.length cb, .slice C n cc, .agg #[.int .i64 a.1, .int .i64 a.2], .agg #[.int .i64 b.1, .int .i64 b.2], .int .i64 p, .int .i64 q] w fun e w' => e = .returned (.bool true) ∧ Below w.heap.size w w' := by
 have HA := Lib.hid (hA.take 40)
 have HB := Lib.hid (hB.take 12)
 have FL := Lib.hid (fit_take hl)
 have FT := Lib.hid (ft.take 12)
 have HI := Lib.hid hi
 have FA := Lib.hid fa
 have FB := Lib.hid fb
 have hsa : 40 < l.length → ∃ b off, A = some ⟨b, off, none⟩ := fun h => by obtain ⟨b, off, e, _⟩ := hA (by omega); exact ⟨b, off, e⟩
 have hsb : 12 < ts.length → ∃ b off, B = some ⟨b, off, none⟩ := fun h => by obtain ⟨b, off, e, _⟩ := hB (by omega); exact ⟨b, off, e⟩
 have LL := Lib.hid (List.length_take (i := 40) (l := l))
 have LT := Lib.hid (List.length_take (i := 12) (l := ts))
 have htl := ft.len
 clear hA hB hl ft hi fa fb
 generalize l.take 40 = L at *
 generalize ts.take 12 = T at *
 obtain ⟨a0, a1⟩ := a
 obtain ⟨b0, b1⟩ := b
 simp only
 go_enter Tryz.func5, Tryz.ntmps5
 go_upto_region 1 with fail
 obtain ⟨W1, hW1⟩ : ∃ W1, W1 = (w.alloc (.cells #[.int .i64 a0, .int .i64 a1] 44)).alloc (.cells #[.int .i64 b0, .int .i64 b1] 44) := ⟨_, rfl⟩
 have B1 : Hid (Below w.heap.size w W1) := by rw [hW1]; exact balZ (balZ (Below.refl _ _) _) _
 have KA : Hid (W1.heap[w.heap.size]? = some (opBox (a0, a1)) ∧ W1.heap[w.heap.size + 1]? = some (opBox (b0, b1))) := by
  rw [hW1]
  have h1 := (heap_alloc (w.alloc (.cells #[.int .i64 a0, .int .i64 a1] 44)) (.cells #[.int .i64 b0, .int .i64 b1] 44)).1
  have z : (w.alloc (.cells #[.int .i64 a0, .int .i64 a1] 44)).heap.size = w.heap.size + 1 := by simp
  rw [z] at h1
  exact ⟨(Below.heap_alloc _ _ _ (by simp)).trans (heap_alloc w _).1, h1⟩
 rw [← hW1]
 clear hW1
 go_upto_if 21 with fail
 go_cut [0] (fun v0 wx => v0 = .slice A L.length ca ∧ W1 = wx)
 case first =>
  by_cases h : 40 < l.length
  ·obtain ⟨bA, oA, rfl⟩ := hsa h
   have e40 : L.length = 40 := by rw [LL.out]; omega
   have hc : 40 ≤ ca := by omega
   have hd : decide ((40 : Int) < l.length) = true := by simp; omega
   go_wp2_with fail
   go_meet
   exact ⟨by rw [e40], rfl⟩
  ·have e40 : L.length = l.length := by rw [LL.out]; omega
   have hd : decide ((40 : Int) < l.length) = false := by simp; omega
   go_wp2_with fail
   go_meet
   exact ⟨by rw [e40], rfl⟩
 case rest =>
  obtain ⟨rfl, rfl⟩ := hcut
  go_upto_if 26 with fail
  go_cut [1] (fun v1 wx => v1 = .slice B T.length cb ∧ W1 = wx)
  case first =>
   by_cases h : 12 < ts.length
   ·obtain ⟨bA, oA, rfl⟩ := hsb h
    have e40 : T.length = 12 := by rw [LT.out]; omega
    have hc : 12 ≤ cb := by omega
    have hd : decide ((12 : Int) < ts.length) = true := by simp; omega
    go_wp2_with fail
    go_meet
    exact ⟨by rw [e40], rfl⟩
   ·have e40 : T.length = ts.length := by rw [LT.out]; omega
    have hd : decide ((12 : Int) < ts.length) = false := by simp; omega
    go_wp2_with fail
    go_meet
    exact ⟨by rw [e40], rfl⟩
  case rest =>
   obtain ⟨rfl, rfl⟩ := hcut
   go_upto_region 5 with fail
   go_cut [15] (fun v15 wx => ∃ z : Nat, v15 = .pointer (some ⟨z, 0, none⟩) ∧ Below W1.heap.size W1 wx ∧ wx.heap[z]? = some (opBox (Sc.modI a0 5 - 1, Sc.modI a1 4)))
   case first =>
    have KS : Hid (∀ W, Below W1.heap.size W1 W → W.cell? ⟨w.heap.size, 0, none⟩ = some (.int .i64 a0) ∧ W.cell? ⟨w.heap.size, 1, none⟩ = some (.int .i64 a1)) := fun W hW => opBox_cells (kept_block' KA.out.1 hW)
    have B0 : Hid (Below W1.heap.size W1 W1) := Below.refl _ _
    have hf0 := modI_fit a0 5 (by decide) (by decide)
    have hw0 : IntKind.i64.wrap (Sc.modI a0 5 - 1) = Sc.modI a0 5 - 1 := IntWalk.i64_in _ (by omega)
    go_region_held3 (fun W => W.cell? ⟨w.heap.size, 0, none⟩ = some (.int .i64 a0) ∧ W.cell? ⟨w.heap.size, 1, none⟩ = some (.int .i64 a1)) ((refine KS.out _ ?_; repeat' (first | (with_reducible exact B0.out) | (with_reducible refine Below.drew ?_) | (with_reducible refine balZ ?_ _)))) ((first | (go_at_call 10; (with_reducible refine (Sc.mod_same a0 5 _ (by decide) (by decide)).mono ?_); rintro e v ⟨rfl, rfl⟩) | (go_at_call 10; (with_reducible refine (Sc.mod_same a1 4 _ (by decide) (by decide)).mono ?_); rintro e v ⟨rfl, rfl⟩)))
    all_goals go_wp2_with fail
    all_goals go_meet
    all_goals exact ⟨_, rfl, (balZ (Below.refl _ _) _).drew, (heap_alloc W1 _).1⟩
   case rest =>
    obtain ⟨zx, rfl, hbx, hzx⟩ := hcut
    generalize wc = W2 at *
    have B2 := Lib.hid (B1.out.trans (hbx.mono B1.out.size))
    have K2 := Lib.hid (And.intro (kept_block' KA.out.1 hbx) (kept_block' KA.out.2 hbx))
    have ZX := Lib.hid hzx
    clear hbx hzx
    go_upto_region 6 with fail
    go_cut [16] (fun v16 wx => ∃ z : Nat, v16 = .pointer (some ⟨z, 0, none⟩) ∧ Below W2.heap.size W2 wx ∧ wx.heap[z]? = some (opBox (Sc.modI b0 4, Sc.modI b1 4)))
    case first =>
     have KS : Hid (∀ W, Below W2.heap.size W2 W → W.cell? ⟨(w.heap.size + 1), 0, none⟩ = some (.int .i64 b0) ∧ W.cell? ⟨(w.heap.size + 1), 1, none⟩ = some (.int .i64 b1)) := fun W hW => opBox_cells (kept_block' K2.out.2 hW)
     have B0 : Hid (Below W2.heap.size W2 W2) := Below.refl _ _
     have hf0 := modI_fit b0 4 (by decide) (by decide)
     have hw0 : IntKind.i64.wrap (Sc.modI b0 4 - 1) = Sc.modI b0 4 - 1 := IntWalk.i64_in _ (by omega)
     go_region_held3 (fun W => W.cell? ⟨(w.heap.size + 1), 0, none⟩ = some (.int .i64 b0) ∧ W.cell? ⟨(w.heap.size + 1), 1, none⟩ = some (.int .i64 b1)) ((refine KS.out _ ?_; repeat' (first | (with_reducible exact B0.out) | (with_reducible refine Below.drew ?_) | (with_reducible refine balZ ?_ _)))) ((first | (go_at_call 10; (with_reducible refine (Sc.mod_same b0 4 _ (by decide) (by decide)).mono ?_); rintro e v ⟨rfl, rfl⟩) | (go_at_call 10; (with_reducible refine (Sc.mod_same b1 4 _ (by decide) (by decide)).mono ?_); rintro e v ⟨rfl, rfl⟩)))
     all_goals go_wp2_with fail
     all_goals go_meet
     all_goals exact ⟨_, rfl, (balZ (Below.refl _ _) _).drew, (heap_alloc W2 _).1⟩
    case rest =>
     obtain ⟨zy, rfl, hby, hzy⟩ := hcut
     have B3 := Lib.hid (B2.out.trans (hby.mono B2.out.size))
     have K3 := Lib.hid (And.intro (And.intro (kept_block' K2.out.1 hby) (kept_block' K2.out.2 hby)) (And.intro (kept_block' ZX.out hby) hzy))
     clear hby hzy K2 ZX
     have I3 : Hid (Sc.IntsAt wc C n) := ⟨HI.out.1, fun h0 => by
      obtain ⟨b, off, e1, e2, e3⟩ := HI.out.2 h0
      exact ⟨b, off, e1, Nat.lt_of_lt_of_le e2 B3.out.size, fun k hk => by
       obtain ⟨z, z1, z2⟩ := e3 k hk
       exact ⟨z, (B3.out.cell (p := ⟨b, _, none⟩) e2).trans z1, z2⟩⟩⟩
     go_upto_region 7 with fail
     go_wp2_with (first | (go_at_call 8; refine stopAt ?_))
     unfold StopAt
     refine (gen_s wc C n cc I3.out).mono ?_
     rintro e w1 ⟨v, ts', rfl, hg, hb1⟩
     go_wp2_with (first | (go_at_call 7; refine stopAt ?_))
     unfold StopAt
     refine (new_s hg).mono ?_
     rintro e w2 ⟨P, rfl, hn⟩
     have B4 := Lib.hid hb1
     clear hg hb1
     go_wp2_with (first | (go_at_call 9; refine stopAt ?_))
     unfold StopAt
     refine (run_s hn).mono ?_
     rintro e w5 ⟨⟨v', rfl⟩, hb3, m, hok, hm⟩
     have b35 := B4.out.trans (hb3.mono B4.out.size)
     have B5 := Lib.hid (B3.out.trans (b35.mono B3.out.size))
     have K5 := Lib.hid (And.intro (And.intro (kept_block' K3.out.1.1 b35) (kept_block' K3.out.1.2 b35)) (And.intro (kept_block' K3.out.2.1 b35) (kept_block' K3.out.2.2 b35)))
     have MO := Lib.hid hok
     have MA := Lib.hid hm
     clear hn hb3 hok hm b35 K3 B3 B4 I3
     obtain ⟨p0, ⟨A1, c1, z1, hT1⟩, E1, d1, z2, hd, hE1⟩ := MA.out
     have Z1 := Lib.hid z1
     have Z2 := Lib.hid z2
     have T1 := Lib.hid hT1
     have E5 := Lib.hid hE1
     clear z1 z2 hT1 hE1
     have f1 := modI_fit a0 5 (by decide) (by decide)
     have f2 := modI_fit a1 4 (by decide) (by decide)
     have f3 := modI_fit b0 4 (by decide) (by decide)
     have f4 := modI_fit b1 4 (by decide) (by decide)
     have FX : Hid (OpFit (Sc.modI a0 5 - 1, Sc.modI a1 4)) := ⟨⟨by simp only; omega, by simp only; omega⟩, by simp only; omega, by simp only; omega⟩
     have FY : Hid (OpFit (Sc.modI b0 4, Sc.modI b1 4)) := ⟨⟨by simp only; omega, by simp only; omega⟩, by simp only; omega, by simp only; omega⟩
     clear f1 f2 f3 f4
     generalize Sc.modI a0 5 - 1 = x0 at *
     generalize Sc.modI a1 4 = x1 at *
     generalize Sc.modI b0 4 = y0 at *
     generalize Sc.modI b1 4 = y1 at *
     have LA : Hid (EvsAt w5 A L) := HA.out.below B5.out
     have LB : Hid (ThrAt w5 B T) := HB.out.below B5.out
     have LC : Hid (Sc.IntsAt w5 C n) := ⟨HI.out.1, fun h0 => by
      obtain ⟨b, off, e1, e2, e3⟩ := HI.out.2 h0
      exact ⟨b, off, e1, Nat.lt_of_lt_of_le e2 B5.out.size, fun k hk => by
       obtain ⟨z, z1, z2⟩ := e3 k hk
       exact ⟨z, (B5.out.cell (p := ⟨b, _, none⟩) e2).trans z1, z2⟩⟩⟩
     have B0 : Hid (Below w5.heap.size w5 w5) := Below.refl _ _
     have up : ∀ {W W' : World}, Below w5.heap.size w5 W → Below W.heap.size W W' → Below w5.heap.size w5 W' := fun h h' => h.trans (h'.mono h.size)
     have Q0 : Hid (∀ W, Below w5.heap.size w5 W → Calls Tryz.prog 11 #[] W fun e w' => e = .returned (.bool true) ∧ Below w5.heap.size w5 w') := fun W hW => (awake_any W).mono fun e w' p => ⟨p.1, up hW p.2⟩
     have Q1 : Hid (∀ W, Below w5.heap.size w5 W → Calls Tryz.prog 15 #[.slice B T.length cb, .slice A L.length ca, .agg #[.int .i64 a0, .int .i64 a1], .agg #[.int .i64 b0, .int .i64 b1]] W fun e w' => e = .returned (.bool true) ∧ Below w5.heap.size w5 w') := fun W hW =>
      (agrees_any W B A cb ca T L (LB.out.below hW) (LA.out.below hW) FT.out FL.out (a0, a1) (b0, b1) FA.out FB.out).mono fun e w' p => ⟨p.1, up hW p.2⟩
     have Q2 : Hid (∀ W, Below w5.heap.size w5 W → Calls Tryz.prog 16 #[.slice C n cc] W fun e w' => ∃ r X x, e = .returned (.slice X (List.length r) x) ∧ EvsAt w' X r ∧ EvsFit r ∧ Below w5.heap.size w5 w') := fun W hW => by
      have hi : Sc.IntsAt W C n := ⟨LC.out.1, fun h0 => by
       obtain ⟨b, off, e1, e2, e3⟩ := LC.out.2 h0
       exact ⟨b, off, e1, Nat.lt_of_lt_of_le e2 hW.size, fun k hk => by
        obtain ⟨z, z1, z2⟩ := e3 k hk
        exact ⟨z, (hW.cell (p := ⟨b, _, none⟩) e2).trans z1, z2⟩⟩⟩
      exact (events_any W C n cc hi).mono fun e w' ⟨r, ⟨X, x, h1, h2, h3⟩, h4⟩ => ⟨r, X, x, h1, h2, h4, up hW h3⟩
     have Q3 : Hid (∀ W (X : Option Addr) (x : Nat) (r : List EvD), Below w5.heap.size w5 W → EvsAt W X r → EvsFit r → Calls Tryz.prog 15 #[.slice A1 ts'.length c1, .slice X r.length x, .agg #[.int .i64 x0, .int .i64 x1], .agg #[.int .i64 y0, .int .i64 y1]] W fun e w' => e = .returned (.bool true) ∧ Below w5.heap.size w5 w') := fun W X x r hW hX hr =>
      (agrees_any W A1 X c1 x ts' r (T1.out.below hW) hX MO.out.thr hr (x0, x1) (y0, y1) FX.out FY.out).mono fun e w' p => ⟨p.1, up hW p.2⟩
     have Q4 : Hid (∀ W, Below w5.heap.size w5 W → Calls Tryz.prog 15 #[.slice A1 ts'.length c1, .slice E1 m.length d1, .agg #[.int .i64 x0, .int .i64 x1], .agg #[.int .i64 y0, .int .i64 y1]] W fun e w' => e = .returned (.bool true) ∧ Below w5.heap.size w5 w') := fun W hW => Q3.out W E1 d1 m hW (E5.out.below hW) MO.out.fit
     have Q5 : Hid (∀ W, Below w5.heap.size w5 W → Calls Tryz.prog 17 #[.slice E1 m.length d1, .int .i64 p, .int .i64 q] W fun e w' => ∃ r X x, e = .returned (.slice X (List.length r) x) ∧ EvsAt w' X r ∧ EvsFit r ∧ Below w5.heap.size w5 w') := fun W hW =>
      (changed_any W E1 d1 m MO.out.fit (E5.out.below hW) MO.out.small MO.out.len p q hp hq).mono fun e w' ⟨r, ⟨X, x, h1, h2, h3⟩, h4⟩ => ⟨r, X, x, h1, h2, h4, up hW h3⟩
     have KS : Hid (∀ W, Below w5.heap.size w5 W → (W.cell? ⟨w.heap.size, 0, none⟩ = some (.int .i64 a0) ∧ W.cell? ⟨w.heap.size, 1, none⟩ = some (.int .i64 a1) ∧ W.cell? ⟨w.heap.size + 1, 0, none⟩ = some (.int .i64 b0) ∧ W.cell? ⟨w.heap.size + 1, 1, none⟩ = some (.int .i64 b1)) ∧ (W.cell? ⟨zx, 0, none⟩ = some (.int .i64 x0) ∧ W.cell? ⟨zx, 1, none⟩ = some (.int .i64 x1) ∧ W.cell? ⟨zy, 0, none⟩ = some (.int .i64 y0) ∧ W.cell? ⟨zy, 1, none⟩ = some (.int .i64 y1)) ∧ (W.cell? ⟨P, 1, none⟩ = some (.slice A1 ts'.length c1) ∧ W.cell? ⟨P, 6, none⟩ = some (.slice E1 m.length d1))) := fun W hW => by
      have h1 := opBox_cells (kept_block' K5.out.1.1 hW)
      have h2 := opBox_cells (kept_block' K5.out.1.2 hW)
      have h3 := opBox_cells (kept_block' K5.out.2.1 hW)
      have h4 := opBox_cells (kept_block' K5.out.2.2 hW)
      exact ⟨⟨h1.1, h1.2, h2.1, h2.2⟩, ⟨h3.1, h3.2, h4.1, h4.2⟩, (hW.cell (p := ⟨P, _, none⟩) p0).trans Z1.out, (hW.cell (p := ⟨P, _, none⟩) p0).trans Z2.out⟩
     clear up
     go_upto_region 9 with fail
     go_region_held3 (fun W => (W.cell? ⟨w.heap.size, 0, none⟩ = some (.int .i64 a0) ∧ W.cell? ⟨w.heap.size, 1, none⟩ = some (.int .i64 a1) ∧ W.cell? ⟨w.heap.size + 1, 0, none⟩ = some (.int .i64 b0) ∧ W.cell? ⟨w.heap.size + 1, 1, none⟩ = some (.int .i64 b1)) ∧ (W.cell? ⟨zx, 0, none⟩ = some (.int .i64 x0) ∧ W.cell? ⟨zx, 1, none⟩ = some (.int .i64 x1) ∧ W.cell? ⟨zy, 0, none⟩ = some (.int .i64 y0) ∧ W.cell? ⟨zy, 1, none⟩ = some (.int .i64 y1)) ∧ (W.cell? ⟨P, 1, none⟩ = some (.slice A1 ts'.length c1) ∧ W.cell? ⟨P, 6, none⟩ = some (.slice E1 m.length d1)))
      ((refine KS.out _ ?_; first | (with_reducible exact P7.out) | (with_reducible exact P6.out.2.2) | (with_reducible exact P5.out) | (with_reducible exact P4.out) | (with_reducible exact P3.out.2.2) | (with_reducible exact P2.out) | (with_reducible exact P1.out) | (with_reducible exact B0.out.drew) | (with_reducible exact B0.out)))
      ((first
       | (go_at_call 11; (with_reducible refine (Q0.out _ B0.out.drew).mono ?_); rintro e v1 ⟨rfl, hp⟩; (have P1 := Lib.hid hp); clear hp)
       | (go_at_call 15; (with_reducible refine (Q1.out _ P1.out).mono ?_); rintro e v2 ⟨rfl, hp⟩; (have P2 := Lib.hid hp); clear hp)
       | (go_at_call 16; (with_reducible refine (Q2.out _ P2.out).mono ?_); rintro e v3 ⟨l3, X3, x3, rfl, hp⟩; (have P3 := Lib.hid hp); clear hp)
       | (go_at_call 15; (with_reducible refine (Q3.out _ X3 x3 l3 P3.out.2.2 P3.out.1 P3.out.2.1).mono ?_); rintro e v4 ⟨rfl, hp⟩; (have P4 := Lib.hid hp); clear hp)
       | (go_at_call 15; (with_reducible refine (Q4.out _ P4.out).mono ?_); rintro e v5 ⟨rfl, hp⟩; (have P5 := Lib.hid hp); clear hp)
       | (go_at_call 17; (with_reducible refine (Q5.out _ P5.out).mono ?_); rintro e v6 ⟨l6, X6, x6, rfl, hp⟩; (have P6 := Lib.hid hp); clear hp)
       | (go_at_call 15; (with_reducible refine (Q3.out _ X6 x6 l6 P6.out.2.2 P6.out.1 P6.out.2.1).mono ?_); rintro e v7 ⟨rfl, hp⟩; (have P7 := Lib.hid hp); clear hp)))
     all_goals (have BE := Lib.hid (B5.out.trans (P7.out.mono B5.out.size)))
     all_goals go_wp2_with fail
     all_goals go_ret
     all_goals exact ⟨rfl, BE.out⟩
end Go.Proofs.YtpabdmcbahmjnaaGreat
