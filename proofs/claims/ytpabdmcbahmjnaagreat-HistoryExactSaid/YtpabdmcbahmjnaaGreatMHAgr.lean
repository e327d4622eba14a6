/- The walk of the law's agrees. -/
import Derived.Test.YtpabdmcbahmjnaaGreatMA8
import Derived.Test.YtpabdmcbahmjnaaGreatMHE
import Derived.Deep.RegionHeld3
namespace Go.Proofs.YtpabdmcbahmjnaaGreat
open Go Go.RowKit Go.MapKept
set_option linter.unusedSimpArgs false
set_option linter.unusedVariables false
theorem res_out (l : List EvD) (a : OpP) : ∃ (r : ResF) (o : Bool), resOut (resultP l a) = .tuple #[.agg #[.int .i64 r.err, .bool r.found, .int .u64 r.value, .string r.key, .int .i64 r.count, .int .i64 r.ref, .int .i64 r.root, .bool r.ro], .bool o] := by
 cases resultP l a with
 | none => exact ⟨ResF.zero, false, rfl⟩
 | some r => exact ⟨r, true, rfl⟩
theorem EvsFit.thr {l : List EvD} (h : EvsFit l) (t : Int) : EvsFit (threadP l t) := by
 have hm : ∀ e, e ∈ threadP l t → e ∈ l := fun e he => (List.mem_filter.1 he).1
 refine ⟨?_, fun e he => h.thread e (hm e he), fun e he => h.index e (hm e he), fun e he => h.res e (hm e he)⟩
 have := h.len
 unfold threadP
 exact Nat.le_trans (List.length_filter_le _ _) this
theorem pend_fit {l : List EvD} (fe : EvsFit l) : OrdFit (pendingP l) := fun a ha => inv_fitH fe a ((List.mem_filter.1 ha).1)
theorem pend_len (l : List EvD) : (pendingP l).length ≤ (invokedP l).length := by unfold pendingP; exact List.length_filter_le _ _
set_option maxRecDepth 100000 in
set_option maxHeartbeats 8000000 in
theorem agrees_any (w : World) (A B : Option Addr) (c d : Nat) (ts : List (List OpD)) (l : List EvD) (hA : ThrAt w A ts) (hB : EvsAt w B l) (ft : ThrFit ts) (fe : EvsFit l) (a b : OpP) (fa : OpFit a) (fb : OpFit b) :
  Calls Tryz.prog 15 #[.slice A ts.length c, .slice B l.length d, .agg #[.int .i64 a.1, .int .i64 a.2], .agg #[.int .i64 b.1, .int .i64 b.2]] w fun e w' => e = .returned (.bool true) ∧ Below w.heap.size w w' := by
 have HA := Lib.hid hA
 have HB := Lib.hid hB
 have FT := Lib.hid ft
 have FE := Lib.hid fe
 have FA := Lib.hid fa
 have FB := Lib.hid fb
 have hl := fe.len
 clear hA hB ft fe fa fb
 obtain ⟨a0, a1⟩ := a
 obtain ⟨b0, b1⟩ := b
 simp only
 obtain ⟨r, o, hro⟩ := res_out l (a0, a1)
 have RO := Lib.hid hro
 clear hro
 go_enter Tryz.func15, Tryz.ntmps15
 go_upto_region 1 with fail
 obtain ⟨W1, hW1⟩ : ∃ W1, W1 = (w.alloc (.cells #[.int .i64 a0, .int .i64 a1] 44)).alloc (.cells #[.int .i64 b0, .int .i64 b1] 44) := ⟨_, rfl⟩
 have B1 : Hid (Below w.heap.size w W1) := by rw [hW1]; exact balZ (balZ (Below.refl _ _) _) _
 have KA : Hid (W1.heap[w.heap.size]? = some (opBox (a0, a1)) ∧ W1.heap[w.heap.size + 1]? = some (opBox (b0, b1))) := by
  rw [hW1]
  have h1 := (heap_alloc (w.alloc (.cells #[.int .i64 a0, .int .i64 a1] 44)) (.cells #[.int .i64 b0, .int .i64 b1] 44)).1
  have z : (w.alloc (.cells #[.int .i64 a0, .int .i64 a1] 44)).heap.size = w.heap.size + 1 := by simp
  rw [z] at h1
  exact ⟨(Below.heap_alloc _ _ _ (by simp)).trans (heap_alloc w _).1, h1⟩
 rw [← hW1]
 clear hW1
 obtain ⟨x0, x1⟩ := opBox_cells KA.out.1
 simp only at x0 x1
 go_wp2_with (first | (go_at_call 18; refine stopAt ?_))
 unfold StopAt
 refine (hresult_any W1 B d l FE.out (HB.out.below B1.out) (a0, a1) FA.out).mono ?_
 rintro e W2 ⟨rfl, hb2⟩
 rw [RO.out]
 have B2 := Lib.hid (B1.out.trans (hb2.mono B1.out.size))
 have K2 := Lib.hid (And.intro (kept_block' KA.out.1 hb2) (kept_block' KA.out.2 hb2))
 clear hb2 x0 x1
 go_upto_region 2 with fail
 obtain ⟨W3, hW3⟩ : ∃ W3, W3 = W2.alloc (.cells #[.int .i64 r.err, .bool r.found, .int .u64 r.value, .string r.key, .int .i64 r.count, .int .i64 r.ref, .int .i64 r.root, .bool r.ro] 56) := ⟨_, rfl⟩
 have b23 : Below W2.heap.size W2 W3 := by rw [hW3]; exact balZ (Below.refl _ _) _
 have R3 : Hid (W3.heap[W2.heap.size]? = some (.cells #[.int .i64 r.err, .bool r.found, .int .u64 r.value, .string r.key, .int .i64 r.count, .int .i64 r.ref, .int .i64 r.root, .bool r.ro] 56 (0, 0))) := by rw [hW3]; exact (heap_alloc W2 _).1
 have B3 := Lib.hid (B2.out.trans (b23.mono B2.out.size))
 have K3 := Lib.hid (And.intro (kept_block' K2.out.1 b23) (kept_block' K2.out.2 b23))
 rw [← hW3]
 clear hW3 b23
 generalize W2.heap.size = zr at *
 obtain ⟨x0, x1⟩ := opBox_cells K3.out.1
 simp only at x0 x1
 go_wp2_with (first | (go_at_call 32; refine stopAt ?_))
 unfold StopAt
 refine (rresult_any W3 B d l hl (HB.out.below B3.out) a0 a1).mono ?_
 rintro e W4 ⟨rfl, hb4⟩
 rw [RO.out]
 have B4 := Lib.hid (B3.out.trans (hb4.mono B3.out.size))
 have K4 := Lib.hid (And.intro (kept_block' K3.out.1 hb4) (kept_block' K3.out.2 hb4))
 have R4 := Lib.hid (kept_block' R3.out hb4)
 clear hb4 x0 x1
 go_upto_region 3 with fail
 obtain ⟨W5, hW5⟩ : ∃ W5, W5 = W4.alloc (.cells #[.int .i64 r.err, .bool r.found, .int .u64 r.value, .string r.key, .int .i64 r.count, .int .i64 r.ref, .int .i64 r.root, .bool r.ro] 56) := ⟨_, rfl⟩
 have b45 : Below W4.heap.size W4 W5 := by rw [hW5]; exact balZ (Below.refl _ _) _
 have S5 : Hid (W5.heap[W4.heap.size]? = some (.cells #[.int .i64 r.err, .bool r.found, .int .u64 r.value, .string r.key, .int .i64 r.count, .int .i64 r.ref, .int .i64 r.root, .bool r.ro] 56 (0, 0))) := by rw [hW5]; exact (heap_alloc W4 _).1
 have B5 := Lib.hid (B4.out.trans (b45.mono B4.out.size))
 have K5 := Lib.hid (And.intro (kept_block' K4.out.1 b45) (kept_block' K4.out.2 b45))
 have R5 := Lib.hid (kept_block' R4.out b45)
 rw [← hW5]
 clear hW5 b45
 generalize W4.heap.size = zs at *
 have HA5 := Lib.hid (HA.out.below B5.out)
 have HB5 := Lib.hid (HB.out.below B5.out)
 clear HA HB B1 KA B2 K2 R3 B3 K3 B4 K4 R4
 have hin : (invokedP l).length ≤ l.length := invN_len l l.length
 have hpn := pend_len l
 generalize hcp : checkP (lens ts) l = ck
 have CP := Lib.hid hcp
 generalize hbf : beforeP l (a0, a1) (b0, b1) = bf
 have BP := Lib.hid hbf
 clear hcp hbf
 have B0 : Hid (Below W5.heap.size W5 W5) := Below.refl _ _
 have up : ∀ {W W' : World}, Below W5.heap.size W5 W → Below W.heap.size W W' → Below W5.heap.size W5 W' := fun h h' => h.trans (h'.mono h.size)
 have Q1 : Hid (∀ W, Below W5.heap.size W5 W → Calls Tryz.prog 12 #[.slice A ts.length c, .slice B l.length d] W fun e w' => e = .returned (.int .i64 ck) ∧ Below W5.heap.size W5 w') := fun W hW => by
  have h := hcheck_any W A B c d ts l (HA5.out.below hW) (HB5.out.below hW) FT.out FE.out
  rw [CP.out] at h
  exact h.mono fun e w' p => ⟨p.1, up hW p.2⟩
 have Q2 : Hid (∀ W, Below W5.heap.size W5 W → Calls Tryz.prog 33 #[.slice A ts.length c, .slice B l.length d] W fun e w' => e = .returned (.int .i64 ck) ∧ Below W5.heap.size W5 w') := fun W hW => by
  have h := rcheck_any W A B c d ts l (HA5.out.below hW) (HB5.out.below hW) FT.out FE.out
  rw [CP.out] at h
  exact h.mono fun e w' p => ⟨p.1, up hW p.2⟩
 have Q3 : Hid (∀ W, Below W5.heap.size W5 W → Calls Tryz.prog 14 #[.slice B l.length d, .agg #[.int .i64 a0, .int .i64 a1], .agg #[.int .i64 b0, .int .i64 b1]] W fun e w' => e = .returned (.bool bf) ∧ Below W5.heap.size W5 w') := fun W hW => by
  have h := hbefore_any W B d l FE.out (HB5.out.below hW) (a0, a1) (b0, b1) FA.out FB.out
  rw [BP.out] at h
  exact h.mono fun e w' p => ⟨p.1, up hW p.2⟩
 have Q4 : Hid (∀ W, Below W5.heap.size W5 W → Calls Tryz.prog 34 #[.slice B l.length d, .agg #[.int .i64 a0, .int .i64 a1], .agg #[.int .i64 b0, .int .i64 b1]] W fun e w' => e = .returned (.bool bf) ∧ Below W5.heap.size W5 w') := fun W hW => by
  have h := before_any W B d l hl (HB5.out.below hW) a0 a1 b0 b1
  rw [BP.out] at h
  exact h.mono fun e w' p => ⟨p.1, up hW p.2⟩
 have Q5 : Hid (∀ W, Below W5.heap.size W5 W → Calls Tryz.prog 13 #[.slice B l.length d] W fun e w' => ∃ X x, e = .returned (.slice X (invokedP l).length x) ∧ OrdAt w' X (invokedP l) ∧ Below W5.heap.size W5 w') := fun W hW =>
  (hinvoked_any W B d l FE.out (HB5.out.below hW)).mono fun e w' ⟨X, x, h1, h2, h3⟩ => ⟨X, x, h1, h2, up hW h3⟩
 have Q6 : Hid (∀ W (X : Option Addr), Below W5.heap.size W5 W → OrdAt W X (invokedP l) → Calls Tryz.prog 35 #[.slice B l.length d] W fun e w' => ∃ Y y, e = .returned (.slice Y (invokedP l).length y) ∧ OrdAt w' Y (invokedP l) ∧ OrdAt w' X (invokedP l) ∧ Below W5.heap.size W5 w') := fun W X hW hX =>
  (rinvoked_any W B d l hl (HB5.out.below hW)).mono fun e w' ⟨Y, y, h1, h2, h3⟩ => ⟨Y, y, h1, h2, hX.below h3, up hW h3⟩
 have Q7 : Hid (∀ W (X Y : Option Addr) (x y : Nat), Below W5.heap.size W5 W → OrdAt W X (invokedP l) → OrdAt W Y (invokedP l) → Calls Tryz.prog 29 #[.slice X (invokedP l).length x, .slice Y (invokedP l).length y] W fun e w' => e = .returned (.bool true) ∧ Below W5.heap.size W5 w') := fun W X Y x y hW hX hY => by
  have h := rsame_any W X Y x y (invokedP l) (invokedP l) hX hY (inv_fitH FE.out) (inv_fitH FE.out) (by omega) (by omega)
  rw [decide_eq_true rfl] at h
  exact h.mono fun e w' p => ⟨p.1, up hW p.2⟩
 have Q8 : Hid (∀ W, Below W5.heap.size W5 W → Calls Tryz.prog 20 #[.slice B l.length d] W fun e w' => ∃ X x, e = .returned (.slice X (pendingP l).length x) ∧ OrdAt w' X (pendingP l) ∧ Below W5.heap.size W5 w') := fun W hW =>
  (hpending_any W B d l FE.out (HB5.out.below hW)).mono fun e w' ⟨X, x, h1, h2, h3⟩ => ⟨X, x, h1, h2, up hW h3⟩
 have Q9 : Hid (∀ W (X : Option Addr), Below W5.heap.size W5 W → OrdAt W X (pendingP l) → Calls Tryz.prog 36 #[.slice B l.length d] W fun e w' => ∃ Y y, e = .returned (.slice Y (pendingP l).length y) ∧ OrdAt w' Y (pendingP l) ∧ OrdAt w' X (pendingP l) ∧ Below W5.heap.size W5 w') := fun W X hW hX =>
  (rpending_any W B d l hl (HB5.out.below hW)).mono fun e w' ⟨Y, y, h1, h2, h3⟩ => ⟨Y, y, h1, h2, hX.below h3, up hW h3⟩
 have Q10 : Hid (∀ W (X Y : Option Addr) (x y : Nat), Below W5.heap.size W5 W → OrdAt W X (pendingP l) → OrdAt W Y (pendingP l) → Calls Tryz.prog 29 #[.slice X (pendingP l).length x, .slice Y (pendingP l).length y] W fun e w' => e = .returned (.bool true) ∧ Below W5.heap.size W5 w') := fun W X Y x y hW hX hY => by
  have h := rsame_any W X Y x y (pendingP l) (pendingP l) hX hY (pend_fit FE.out) (pend_fit FE.out) (by omega) (by omega)
  rw [decide_eq_true rfl] at h
  exact h.mono fun e w' p => ⟨p.1, up hW p.2⟩
 have Q11 : Hid (∀ W, Below W5.heap.size W5 W → Calls Tryz.prog 19 #[.slice B l.length d, .int .i64 a0] W fun e w' => ∃ X x, e = .returned (.slice X (threadP l a0).length x) ∧ EvsAt w' X (threadP l a0) ∧ Below W5.heap.size W5 w') := fun W hW =>
  (hthread_any W B d l hl (HB5.out.below hW) a0).mono fun e w' ⟨X, x, h1, h2, h3⟩ => ⟨X, x, h1, h2, up hW h3⟩
 have Q12 : Hid (∀ W (X : Option Addr), Below W5.heap.size W5 W → EvsAt W X (threadP l a0) → Calls Tryz.prog 38 #[.slice B l.length d, .int .i64 a0] W fun e w' => ∃ Y y, e = .returned (.slice Y (threadP l a0).length y) ∧ EvsAt w' Y (threadP l a0) ∧ EvsAt w' X (threadP l a0) ∧ Below W5.heap.size W5 w') := fun W X hW hX =>
  (rthread_any W B d l hl (HB5.out.below hW) a0).mono fun e w' ⟨Y, y, h1, h2, h3⟩ => ⟨Y, y, h1, h2, hX.below h3, up hW h3⟩
 have Q13 : Hid (∀ W (X Y : Option Addr) (x y : Nat), Below W5.heap.size W5 W → EvsAt W X (threadP l a0) → EvsAt W Y (threadP l a0) → Calls Tryz.prog 37 #[.slice X (threadP l a0).length x, .slice Y (threadP l a0).length y] W fun e w' => e = .returned (.bool true) ∧ Below W5.heap.size W5 w') := fun W X Y x y hW hX hY =>
  (rsameEv_any W X Y x y (threadP l a0) (FE.out.thr a0) hX hY).mono fun e w' p => ⟨p.1, up hW p.2⟩
 have KS : Hid (∀ W, Below W5.heap.size W5 W → (W.cell? ⟨w.heap.size, 0, none⟩ = some (.int .i64 a0) ∧ W.cell? ⟨w.heap.size, 1, none⟩ = some (.int .i64 a1) ∧ W.cell? ⟨w.heap.size + 1, 0, none⟩ = some (.int .i64 b0) ∧ W.cell? ⟨w.heap.size + 1, 1, none⟩ = some (.int .i64 b1)) ∧
   (W.cell? ⟨zr, 0, none⟩ = some (.int .i64 r.err) ∧ W.cell? ⟨zr, 1, none⟩ = some (.bool r.found) ∧ W.cell? ⟨zr, 2, none⟩ = some (.int .u64 r.value) ∧ W.cell? ⟨zr, 3, none⟩ = some (.string r.key) ∧ W.cell? ⟨zr, 4, none⟩ = some (.int .i64 r.count) ∧ W.cell? ⟨zr, 5, none⟩ = some (.int .i64 r.ref) ∧ W.cell? ⟨zr, 6, none⟩ = some (.int .i64 r.root) ∧ W.cell? ⟨zr, 7, none⟩ = some (.bool r.ro)) ∧
   (W.cell? ⟨zs, 0, none⟩ = some (.int .i64 r.err) ∧ W.cell? ⟨zs, 1, none⟩ = some (.bool r.found) ∧ W.cell? ⟨zs, 2, none⟩ = some (.int .u64 r.value) ∧ W.cell? ⟨zs, 3, none⟩ = some (.string r.key) ∧ W.cell? ⟨zs, 4, none⟩ = some (.int .i64 r.count) ∧ W.cell? ⟨zs, 5, none⟩ = some (.int .i64 r.ref) ∧ W.cell? ⟨zs, 6, none⟩ = some (.int .i64 r.root) ∧ W.cell? ⟨zs, 7, none⟩ = some (.bool r.ro))) := fun W hW => by
  have h1 := opBox_cells (kept_block' K5.out.1 hW)
  have h2 := opBox_cells (kept_block' K5.out.2 hW)
  have h3 := kept_block' R5.out hW
  have h4 := kept_block' S5.out hW
  exact ⟨⟨h1.1, h1.2, h2.1, h2.2⟩, ⟨blk_cell h3 0, blk_cell h3 1, blk_cell h3 2, blk_cell h3 3, blk_cell h3 4, blk_cell h3 5, blk_cell h3 6, blk_cell h3 7⟩, ⟨blk_cell h4 0, blk_cell h4 1, blk_cell h4 2, blk_cell h4 3, blk_cell h4 4, blk_cell h4 5, blk_cell h4 6, blk_cell h4 7⟩⟩
 clear up
 go_region_held3 (fun W => (W.cell? ⟨w.heap.size, 0, none⟩ = some (.int .i64 a0) ∧ W.cell? ⟨w.heap.size, 1, none⟩ = some (.int .i64 a1) ∧ W.cell? ⟨w.heap.size + 1, 0, none⟩ = some (.int .i64 b0) ∧ W.cell? ⟨w.heap.size + 1, 1, none⟩ = some (.int .i64 b1)) ∧
   (W.cell? ⟨zr, 0, none⟩ = some (.int .i64 r.err) ∧ W.cell? ⟨zr, 1, none⟩ = some (.bool r.found) ∧ W.cell? ⟨zr, 2, none⟩ = some (.int .u64 r.value) ∧ W.cell? ⟨zr, 3, none⟩ = some (.string r.key) ∧ W.cell? ⟨zr, 4, none⟩ = some (.int .i64 r.count) ∧ W.cell? ⟨zr, 5, none⟩ = some (.int .i64 r.ref) ∧ W.cell? ⟨zr, 6, none⟩ = some (.int .i64 r.root) ∧ W.cell? ⟨zr, 7, none⟩ = some (.bool r.ro)) ∧
   (W.cell? ⟨zs, 0, none⟩ = some (.int .i64 r.err) ∧ W.cell? ⟨zs, 1, none⟩ = some (.bool r.found) ∧ W.cell? ⟨zs, 2, none⟩ = some (.int .u64 r.value) ∧ W.cell? ⟨zs, 3, none⟩ = some (.string r.key) ∧ W.cell? ⟨zs, 4, none⟩ = some (.int .i64 r.count) ∧ W.cell? ⟨zs, 5, none⟩ = some (.int .i64 r.ref) ∧ W.cell? ⟨zs, 6, none⟩ = some (.int .i64 r.root) ∧ W.cell? ⟨zs, 7, none⟩ = some (.bool r.ro)))
  ((refine KS.out _ ?_; first | (with_reducible exact P13.out) | (with_reducible exact P12.out.2.2) | (with_reducible exact P11.out.2) | (with_reducible exact P10.out) | (with_reducible exact P9.out.2.2) | (with_reducible exact P8.out.2) | (with_reducible exact P7.out) | (with_reducible exact P6.out.2.2) | (with_reducible exact P5.out.2) | (with_reducible exact P4.out) | (with_reducible exact P3.out) | (with_reducible exact P2.out) | (with_reducible exact P1.out) | (with_reducible exact B0.out.drew) | (with_reducible exact B0.out)))
  ((first
   | (go_at_call 12; (with_reducible refine (Q1.out _ B0.out.drew).mono ?_); rintro e v1 ⟨rfl, hp⟩; (have P1 := Lib.hid hp); clear hp)
   | (go_at_call 33; (with_reducible refine (Q2.out _ P1.out).mono ?_); rintro e v2 ⟨rfl, hp⟩; (have P2 := Lib.hid hp); clear hp)
   | (go_at_call 14; (with_reducible refine (Q3.out _ P2.out).mono ?_); rintro e v3 ⟨rfl, hp⟩; (have P3 := Lib.hid hp); clear hp)
   | (go_at_call 34; (with_reducible refine (Q4.out _ P3.out).mono ?_); rintro e v4 ⟨rfl, hp⟩; (have P4 := Lib.hid hp); clear hp)
   | (go_at_call 13; (with_reducible refine (Q5.out _ P4.out).mono ?_); rintro e v5 ⟨X5, x5, rfl, hp⟩; (have P5 := Lib.hid hp); clear hp)
   | (go_at_call 35; (with_reducible refine (Q6.out _ X5 P5.out.2 P5.out.1).mono ?_); rintro e v6 ⟨Y6, y6, rfl, hp⟩; (have P6 := Lib.hid hp); clear hp)
   | (go_at_call 29; (with_reducible refine (Q7.out _ X5 Y6 x5 y6 P6.out.2.2 P6.out.2.1 P6.out.1).mono ?_); rintro e v7 ⟨rfl, hp⟩; (have P7 := Lib.hid hp); clear hp)
   | (go_at_call 20; (with_reducible refine (Q8.out _ P7.out).mono ?_); rintro e v8 ⟨X8, x8, rfl, hp⟩; (have P8 := Lib.hid hp); clear hp)
   | (go_at_call 36; (with_reducible refine (Q9.out _ X8 P8.out.2 P8.out.1).mono ?_); rintro e v9 ⟨Y9, y9, rfl, hp⟩; (have P9 := Lib.hid hp); clear hp)
   | (go_at_call 29; (with_reducible refine (Q10.out _ X8 Y9 x8 y9 P9.out.2.2 P9.out.2.1 P9.out.1).mono ?_); rintro e v10 ⟨rfl, hp⟩; (have P10 := Lib.hid hp); clear hp)
   | (go_at_call 19; (with_reducible refine (Q11.out _ P10.out).mono ?_); rintro e v11 ⟨X11, x11, rfl, hp⟩; (have P11 := Lib.hid hp); clear hp)
   | (go_at_call 38; (with_reducible refine (Q12.out _ X11 P11.out.2 P11.out.1).mono ?_); rintro e v12 ⟨Y12, y12, rfl, hp⟩; (have P12 := Lib.hid hp); clear hp)
   | (go_at_call 37; (with_reducible refine (Q13.out _ X11 Y12 x11 y12 P12.out.2.2 P12.out.2.1 P12.out.1).mono ?_); rintro e v13 ⟨rfl, hp⟩; (have P13 := Lib.hid hp); clear hp)))
 have BE := Lib.hid (B5.out.trans (P13.out.mono B5.out.size))
 go_wp2_with fail
 go_ret
 exact ⟨rfl, BE.out⟩
end Go.Proofs.YtpabdmcbahmjnaaGreat
