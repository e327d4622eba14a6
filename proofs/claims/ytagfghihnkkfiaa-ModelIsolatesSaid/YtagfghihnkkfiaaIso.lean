/- The walk of ModelIsolates. -/
import Derived.Test.YtagfghihnkkfiaaIsoP
import Derived.Test.YtagfghihnkkfiaaAwake
import Derived.Test.YtagfghihnkkfiaaFrame
import Derived.Deep.LoopGhost
import Derived.Deep.DeepCutAuto
import Derived.Deep.RegionWith
import Derived.Deep.QuietTactic
import Derived.BigQuiet
namespace Go.Proofs.Ytagfghihnkkfiaa
set_option linter.unusedVariables false
set_option linter.unusedSimpArgs false
open Go.RowKit Go.MapKept
theorem refnum_5 (w : World) : Calls Try.prog 12 #[.int .i64 0, .int .i64 5] w fun e w' => e = .returned (.int .i64 6) ∧ w = w' := by
  go_enter Try.func12, Try.ntmps12
  go_wp2
  go_ret
  exact ⟨rfl, rfl⟩
theorem two_sorted {zs : List Int} (hp : zs.Perm [0, 6]) (hs : zs.Pairwise (fun a b => a ≤ b)) : zs = [0, 6] :=
  List.Perm.eq_of_pairwise (le := fun a b => a ≤ b) (fun a b _ _ h1 h2 => by omega) hs (by simp) hp
theorem hand_S {w0 w : World} {m : Int} {L M : List (ByteArray × Int)} {b : Bool} {S : Nat → Prop} {N bt : Nat} {rows : List (Nat × List (ByteArray × Int))} (h : IsoSt w0 w m L M b S N bt rows) (hN : N ≤ 1000) :
    Calls Try.prog 19 #[.pointer (some ⟨w0.heap.size + 3, 0, none⟩)] w fun e w' => ∃ g, e = .returned (.slice (some ⟨g, 0, none⟩) 2 2) ∧ IntsIn w' g [0, 6] ∧ g < w'.heap.size ∧ Below w.heap.size w w' := by
  obtain ⟨F, h1, h2, h3⟩ := h.fam
  have hk : F.maps.map (·.1) = [0, 6] := by
    have : F.abs.maps.map (·.1) = [0, 6] := by rw [h2]; rfl
    simpa [FamD.abs, amap, List.map_map, Function.comp_def] using this
  have hl : F.maps.length = 2 := by
    have := congrArg List.length hk
    simpa using this
  refine (handles_any w _ _ _ F h1 (by omega)).mono fun e w' hp => ?_
  rw [hk] at hp
  obtain ⟨g, zs, he, p1, p2, p3, p4, p5, p6⟩ := hp
  rw [two_sorted p1 p2] at p3
  exact ⟨g, he, p3, p5, p6⟩
theorem two_eq (w : World) (g : Nat) (h : IntsIn w g [0, 6]) (hg : g < w.heap.size) :
    Calls Try.prog 18 #[.slice (some ⟨g, 0, none⟩) 2 2, .slice (some ⟨w.heap.size, 0, none⟩) 2 2] (w.alloc (.cells #[.int .i64 0, .int .i64 6] 3)) fun e w' => e = .returned (.bool true) ∧ Below (w.alloc (.cells #[.int .i64 0, .int .i64 6] 3)).heap.size (w.alloc (.cells #[.int .i64 0, .int .i64 6] 3)) w' := by
  refine ints_eq (w.alloc (.cells #[.int .i64 0, .int .i64 6] 3)) g w.heap.size 2 2 [0, 6] (h.of_block (alloc_old w _ g hg)) (fun P x hx => ?_) (by simp)
  rw [blk_cell (alloc_here w _)]
  match P, hx with
  | 0, hx => simp at hx; subst hx; rfl
  | 1, hx => simp at hx; subst hx; rfl
theorem iso_eq {w0 w : World} {m : Int} {L M X : List (ByteArray × Int)} {b : Bool} {S : Nat → Prop} {N bt g1 g2 : Nat} {rows : List (Nat × List (ByteArray × Int))} (h : IsoSt w0 w m L M b S N bt rows) (h1 : (g1, sortedOf m X) ∈ rows) (h2 : (g2, sortedOf m X) ∈ rows) (hn : X.length ≤ 1000) :
    Calls Try.prog 17 #[.slice (some ⟨g1, 0, none⟩) X.length X.length, .slice (some ⟨g2, 0, none⟩) X.length X.length] w fun e w' => e = .returned (.bool true) ∧ IsoSt w0 w' m L M b S N bt rows := by
  have := pairs_eq w g1 g2 X.length X.length (sortedOf m X) (h.rows _ h1).1 (h.rows _ h2).1 (by rw [sortedOf_length]; omega)
  rw [sortedOf_length] at this
  exact this.mono fun e w' ⟨he, hb⟩ => ⟨he, h.below' hb⟩
def IsoOp (wr : World) (c : Nat) (b : Bool) (wx : World) : Prop := wx.heap[c]? = some (.cells (opC (opE (kB b) 0)) 39 (0, 0)) ∧ Below wr.heap.size wr wx ∧ c < wx.heap.size
def IsoL2 (w0 : World) (m : Int) (M : List (ByteArray × Int)) (b : Bool) (S : Nat → Prop) (bt : Nat) (rows : List (Nat × List (ByteArray × Int))) (i : Value) (wr : World) : Prop :=
  ∃ (k : Nat) (L : List (ByteArray × Int)), 6 ≤ k ∧ k ≤ 12 ∧ i = .int .i64 k ∧ IsoSt w0 wr m L M b S (k + 1) bt rows
def IsoM2 (w0 : World) (m : Int) (M : List (ByteArray × Int)) (b : Bool) (S : Nat → Prop) (N bt : Nat) (rows : List (Nat × List (ByteArray × Int))) (wr : World) : Prop :=
  ∃ (L : List (ByteArray × Int)), IsoSt w0 wr m L M b S N bt rows
def IsoL3 (w0 : World) (m : Int) (L M0 : List (ByteArray × Int)) (b : Bool) (S : Nat → Prop) (bt : Nat) (rows : List (Nat × List (ByteArray × Int))) (i : Value) (wr : World) : Prop :=
  ∃ (k : Nat) (M : List (ByteArray × Int)), k ≤ 5 ∧ i = .int .i64 k ∧ IsoSt w0 wr m L M b S (k + 13) bt rows ∧ (b = true → M = M0)
def IsoM3 (w0 : World) (m : Int) (L M0 : List (ByteArray × Int)) (b : Bool) (S : Nat → Prop) (N bt : Nat) (rows : List (Nat × List (ByteArray × Int))) (wr : World) : Prop :=
  ∃ (M : List (ByteArray × Int)), IsoSt w0 wr m L M b S N bt rows ∧ (b = true → M = M0)
theorem k3_cell (W : World) (R : Nat) (hR : R < 3) : (W.alloc (.cells #[.int .i64 1, .int .i64 5, .int .i64 10] 3)).cell? ⟨W.heap.size, R, none⟩ = some (.int .i64 (kOf R)) := by
  rw [blk_cell (alloc_here W _)]
  rcases (by omega : R = 0 ∨ R = 1 ∨ R = 2) with rfl | rfl | rfl <;> rfl
set_option maxRecDepth 100000 in
set_option maxHeartbeats 8000000 in
theorem iso_main (w : World) (m : Int) (A : Option Addr) (n c : Nat) (b : Bool) (m0 : 0 ≤ m) (m1 : m ≤ 18446744073709551615) (hn : n ≤ 9223372036854775807)
    (hr : 0 < n → ∃ b off, A = some ⟨b, off, none⟩ ∧ b < w.heap.size ∧ ∀ k, k < n → ∃ z : Int, w.cell? ⟨b, off + k, none⟩ = some (.int .i64 z) ∧ -9223372036854775808 ≤ z ∧ z ≤ 9223372036854775807) :
    Calls Try.prog 5 #[.int .u64 m, .slice A n c, .bool b] w fun e w' => e = .returned (.bool true) ∧ Below w.heap.size w w' := by
  have HR := Lib.hid hr
  clear hr
  go_enter Try.func5, Try.ntmps5
  go_wp2_with fail
  refine (new_A _ _).mono ?_
  rintro e w1 ⟨rfl, hb1, hz1, hf1⟩
  have HB := Lib.hid hb1
  have HF := Lib.hid hf1
  clear hf1 hb1
  go_wp2_with fail
  refine (tnew_any _ A n c).mono ?_
  rintro e w2 ⟨rfl, rfl⟩
  have st0 : KeySt w (w1.alloc (.cells #[.slice A n c, .int .i64 0] 80)) m [] 1 [] :=
    ⟨HF.out.alloc _, famO_ok m m0 m1, by simp, HB.out.alloc HB.out.size _, by simp; omega⟩
  have tp0 : TapeIs (w1.alloc (.cells #[.slice A n c, .int .i64 0] 80)) w.heap.size w1.heap.size := by
    refine TapeIs.made HB.out.size hn (fun h0 => ?_)
    obtain ⟨b, off, ha, hb, hc⟩ := HR.out h0
    exact ⟨b, off, ha, hb, fun k hk => by obtain ⟨z, hz, hz2⟩ := hc k hk; exact ⟨z, (HB.out.cell (p := ⟨b, off + k, none⟩) hb).trans hz, hz2⟩⟩
  have ST := Lib.hid st0
  have TP := Lib.hid tp0
  clear st0 tp0 HF HB HR
  go_wp2_with fail
  go_loopw [9] (fun i wr => OrdLp1 w m 5 w1.heap.size i wr) (fun i _ => 9 - (intOf i).toNat)
  case atStart => exact ⟨0, [], by omega, rfl, ST.out, TP.out, by omega⟩
  case round =>
    obtain ⟨k, L, hk5, rfl, hst, htp, hbt⟩ := hrel
    have HS2 := Lib.hid hst
    have HT2 := Lib.hid htp
    clear hst htp ST TP
    by_cases hkr : (k : Int) < 5
    · go_wp2_with fail
      refine (tkey_any _ _ _ HT2.out).mono ?_
      rintro e w3 ⟨⟨ky, hky, rfl⟩, ht3, ho3⟩
      have HS3 := Lib.hid (HS2.out.only ho3 hbt (by simp))
      have HT3 := Lib.hid ht3
      have KS := Lib.hid (keys8_small hky)
      clear ht3 ho3 HS2 HT2 hky
      go_wp2_with fail
      refine (key_step0 _ _ m L (k + 1) [] k ⟨1, 0, ky, k, 0⟩ _ _ HS3.out (by omega) KS.out (by simp) (one_insert m L k (by omega) (by omega) ky k 0 KS.out)).mono ?_
      rintro e w4 ⟨rfl, hs4, ho4⟩
      have HS4 := Lib.hid hs4
      have HT4 := Lib.hid (HT3.out.only ho4 (by unfold blk4; omega) (fun k hk => by unfold blk4; omega))
      clear hs4 ho4 HS3 HT3
      simp only [ResD.cells]
      go_wp2_with fail
      go_roundw
      case rel => exact ⟨k + 1, _, by omega, by go_num, HS4.out, HT4.out, hbt⟩
      case measure => simp [intOf]; omega
    · have hkr' : decide ((k : Int) < 5) = false := by simpa using hkr
      clear hkr
      obtain ⟨wq, rfl⟩ : ∃ wq : World, wq = wr := ⟨_, rfl⟩
      go_upto_if 45 with (fail)
      go_cut [] (fun wx => IsoOp wq wq.heap.size b wx)
      case first =>
        cases b
        · go_wp2_with fail
          go_meet
          exact ⟨alloc_here _ _, (Below.refl _ _).alloc (Nat.le_refl _) _, by simp⟩
        · go_wp2_with fail
          go_meet
          exact ⟨alloc_here _ _, (Below.refl _ _).alloc (Nat.le_refl _) _, by simp⟩
      case rest =>
        obtain ⟨wo, rfl⟩ : ∃ wo : World, wo = wc := ⟨_, rfl⟩
        obtain ⟨o1, o2, o3⟩ := hcut
        have n0 : ∀ j : Nat, wo.cell? ⟨wq.heap.size, j, none⟩ = (opC (opE (kB b) 0))[j]? := fun j => blk_cell o1 j
        have HF4 := Lib.hid (HS2.out.below' o2)
        have HT4 := Lib.hid (HT2.out.keep (w' := wo) (o2.block _ HT2.out.lt) (fun k hk => o2.block k (by have := HS2.out.size; omega)))
        simp only [opC, opE] at n0
        clear o1 o2 HS2 HT2 hkr'
        go_wp2_with fail
        refine (copy_to _ _ _ _ (fam1 m L) _ 10 (by omega) 0 5 (opE (kB b) 0) (famS m L L b) { found := true } HF4.out.fam (HF4.out.ok.more (by omega)) (opE_small _ _) (iso_copy m L b)).mono ?_
        rintro e w5 ⟨rfl, hf5, ho5⟩
        obtain ⟨S, st5⟩ : ∃ S : Nat → Prop, IsoSt w w5 m L L b S 7 w1.heap.size [] := by
          have hz := HF4.out.size
          have hz2 := ho5.size
          have hz3 := HT4.out.lt
          refine ⟨_, hf5, ?_, HT4.out.only ho5 (by unfold blk4; omega) (fun k hk => by unfold blk4; omega), HF4.out.below.trans (ho5.below HF4.out.below.size (fun k hk => hk.1)), ?_, ?_, by simp⟩
          · have := (HF4.out.ok.more (show k + 1 ≤ 6 by omega)).apply 0 5 (opE (kB b) 0)
            rw [iso_copy] at this
            exact this
          · rintro k (hk | hk)
            · exact ⟨hk.1, by unfold blk4 at hk; omega⟩
            · exact ⟨by omega, by omega⟩
          · rintro k (hk | hk)
            · unfold blk4 at hk; omega
            · exact hk.2
        have S5 := Lib.hid st5
        clear hf5 ho5 st5 HF4 HT4 n0 o3
        simp only [ResD.cells]
        go_wp2_with fail
        refine (refnum_5 _).mono ?_
        rintro e w' ⟨rfl, rfl⟩
        go_wp2_with fail
        refine (iso_contents S5.out (by omega) 0 ⟨L, false⟩ (by simp [famS, alook])).mono ?_
        rintro e w6 ⟨g1, rfl, st6⟩
        have S6 := Lib.hid st6
        clear st6 S5
        go_wp2_with fail
        go_loopw [15] (fun i wr => IsoL2 w m L b S w1.heap.size [(g1, sortedOf m L)] i wr) (fun i _ => 12 - (intOf i).toNat)
        case atStart => exact ⟨6, L, by omega, by omega, rfl, S6.out⟩
        case round =>
          obtain ⟨k2, L2, h6, h12, rfl, hst⟩ := hrel
          have S7 := Lib.hid hst
          clear hst S6
          by_cases hk2 : (k2 : Int) < 12
          · obtain ⟨wp, rfl⟩ : ∃ wp : World, wp = wr := ⟨_, rfl⟩
            go_upto_region 18 with (fail)
            have hbw : w1.heap.size < wp.heap.size := S7.out.tape.lt
            go_region_with (first | (go_at_call 9; (refine (tnext_any _ w.heap.size w1.heap.size 3 ?ht (by omega) (by omega)).mono ?_); (case ht => first | exact S7.out.drew.tape | exact (S7.out.alloc _).drew.tape | exact S7.out.tape | exact (S7.out.alloc _).tape); rintro e w7 ⟨⟨r, r0, r1, rfl⟩, ht7, ho7⟩; obtain ⟨R, rfl⟩ := Int.eq_ofNat_of_zero_le r0; (have hR : R < 3 := by omega); (have T7 : Hid (IsoSt w w7 m L2 L b S (k2 + 1) w1.heap.size [(g1, sortedOf m L)]) := by first | exact S7.out.drew.tape' ho7 ht7 | exact (S7.out.alloc _).drew.tape' ho7 ht7 | exact S7.out.tape' ho7 ht7 | exact (S7.out.alloc _).tape' ho7 ht7); (have hk3 := fun W => k3_cell W R hR); (try (have hc7 : w7.cell? ⟨wp.heap.size, R, none⟩ = some (.int .i64 (kOf R)) := (World.cell?_of_block (ho7.block wp.heap.size (by simp) (by omega))).trans (k3_cell wp R hR))); clear ht7 ho7) | (go_at_call 11; (refine (tkey_any _ w.heap.size w1.heap.size ?ht).mono ?_); (case ht => first | exact T7.out.tape | exact (T7.out.alloc _).tape); rintro e w8 ⟨⟨ky, hky, rfl⟩, ht8, ho8⟩; (have KS := Lib.hid (keys8_small hky)); (have T8 : Hid (IsoSt w w8 m L2 L b S (k2 + 1) w1.heap.size [(g1, sortedOf m L)]) := by first | exact T7.out.tape' ho8 ht8 | exact (T7.out.alloc _).tape' ho8 ht8); (try (have hc8 : w8.cell? ⟨wp.heap.size, R, none⟩ = some (.int .i64 (kOf R)) := (World.cell?_of_block (ho8.block wp.heap.size (cell_lt hc7) (by omega))).trans hc7)); (try (have hc8 : w8.cell? ⟨w7.heap.size, R, none⟩ = some (.int .i64 (kOf R)) := (World.cell?_of_block (ho8.block w7.heap.size (by simp) (by have := T7.out.tape.lt; omega))).trans (k3_cell w7 R hR))); clear ht8 ho8 hky) | (go_at_call 10; (refine (iso_stepA (w0 := w) (m := m) (L := L2) (M := L) (b := b) (S := S) (N := k2 + 1) (bt := w1.heap.size) (rows := [(g1, sortedOf m L)]) ?hs (by omega) k2 (by omega) (by omega) (kOf R) (kOf_cases R) ky KS.out 50 0).mono ?_); (case hs => first | exact T8.out | exact T8.out.alloc _); rintro e w9 ⟨L3, r9, rfl, hs9⟩; have S9 := Lib.hid hs9; clear hs9; simp only [ResD.cells]))
            all_goals
              go_wp2_with fail
              go_roundw
              case rel => exact ⟨k2 + 1, L3, by omega, by omega, by go_num, S9.out⟩
              case measure => simp [intOf]; omega
          · obtain rfl : k2 = 12 := by omega
            have hkr2 : decide (((12 : Nat) : Int) < 12) = false := by decide
            have hkr3 : decide ((12 : Int) < 12) = false := by decide
            have hL : L.length ≤ 1000 := Nat.le_trans (S7.out.ok.lens (6, ⟨L, b⟩) (by simp [famS])) (by omega)
            have hL2 : L2.length ≤ 1000 := Nat.le_trans (S7.out.ok.lens (0, ⟨L2, false⟩) (by simp [famS])) (by omega)
            go_wp2_with fail
            refine (iso_contents S7.out (by omega) 6 ⟨L, b⟩ (by simp [famS, alook])).mono ?_
            rintro e w8 ⟨g2, rfl, st8⟩
            have S8 := Lib.hid st8
            clear st8 S7
            go_wp2_with fail
            refine (iso_eq (X := L) S8.out (by simp) (by simp) hL).mono ?_
            rintro e w9 ⟨rfl, st9⟩
            have S9 := Lib.hid st9
            clear st9 S8
            go_wp2_with fail
            refine (iso_contents S9.out (by omega) 0 ⟨L2, false⟩ (by simp [famS, alook])).mono ?_
            rintro e w10 ⟨g3, rfl, st10⟩
            have S10 := Lib.hid st10
            clear st10 S9
            go_wp2_with fail
            go_loopw [22] (fun i wr => IsoL3 w m L2 L b S w1.heap.size [(g3, sortedOf m L2), (g2, sortedOf m L), (g1, sortedOf m L)] i wr) (fun i _ => 12 - (intOf i).toNat)
            case atStart => exact ⟨0, L, by omega, rfl, S10.out, fun _ => rfl⟩
            case round =>
              obtain ⟨k3, M2, h5, rfl, hst, hM2⟩ := hrel
              have T0 := Lib.hid hst
              have HM2 := Lib.hid hM2
              clear hst S10 hM2 hkr2 hkr3
              by_cases hk3 : (k3 : Int) < 5
              · obtain ⟨wp, rfl⟩ : ∃ wp : World, wp = wr := ⟨_, rfl⟩
                go_upto_region 26 with (fail)
                have hbw : w1.heap.size < wp.heap.size := T0.out.tape.lt
                go_region_with (first | (go_at_call 9; (refine (tnext_any _ w.heap.size w1.heap.size 3 ?ht (by omega) (by omega)).mono ?_); (case ht => first | exact T0.out.drew.tape | exact (T0.out.alloc _).drew.tape | exact T0.out.tape | exact (T0.out.alloc _).tape); rintro e w12 ⟨⟨r, r0, r1, rfl⟩, ht7, ho7⟩; obtain ⟨R, rfl⟩ := Int.eq_ofNat_of_zero_le r0; (have hR : R < 3 := by omega); (have T7 : Hid (IsoSt w w12 m L2 M2 b S (k3 + 13) w1.heap.size [(g3, sortedOf m L2), (g2, sortedOf m L), (g1, sortedOf m L)]) := by first | exact T0.out.drew.tape' ho7 ht7 | exact (T0.out.alloc _).drew.tape' ho7 ht7 | exact T0.out.tape' ho7 ht7 | exact (T0.out.alloc _).tape' ho7 ht7); (have hk3 := fun W => k3_cell W R hR); (try (have hc7 : w12.cell? ⟨wp.heap.size, R, none⟩ = some (.int .i64 (kOf R)) := (World.cell?_of_block (ho7.block wp.heap.size (by simp) (by omega))).trans (k3_cell wp R hR))); clear ht7 ho7) | (go_at_call 11; (refine (tkey_any _ w.heap.size w1.heap.size ?ht).mono ?_); (case ht => first | exact T7.out.tape | exact (T7.out.alloc _).tape); rintro e w13 ⟨⟨ky, hky, rfl⟩, ht8, ho8⟩; (have KS := Lib.hid (keys8_small hky)); (have T8 : Hid (IsoSt w w13 m L2 M2 b S (k3 + 13) w1.heap.size [(g3, sortedOf m L2), (g2, sortedOf m L), (g1, sortedOf m L)]) := by first | exact T7.out.tape' ho8 ht8 | exact (T7.out.alloc _).tape' ho8 ht8); (try (have hc8 : w13.cell? ⟨wp.heap.size, R, none⟩ = some (.int .i64 (kOf R)) := (World.cell?_of_block (ho8.block wp.heap.size (cell_lt hc7) (by omega))).trans hc7)); (try (have hc8 : w13.cell? ⟨w12.heap.size, R, none⟩ = some (.int .i64 (kOf R)) := (World.cell?_of_block (ho8.block w12.heap.size (by simp) (by have := T7.out.tape.lt; omega))).trans (k3_cell w12 R hR))); clear ht8 ho8 hky) | (go_at_call 10; (refine (iso_stepB (w0 := w) (m := m) (L := L2) (M := M2) (b := b) (S := S) (N := k3 + 13) (bt := w1.heap.size) (rows := [(g3, sortedOf m L2), (g2, sortedOf m L), (g1, sortedOf m L)]) ?hs (by omega) k3 (by omega) (by omega) (kOf R) (kOf_cases R) ky KS.out 60 0).mono ?_); (case hs => first | exact T8.out | exact T8.out.alloc _); rintro e w14 ⟨M3, r9, rfl, hs9, hMM⟩; have S14 := Lib.hid (And.intro hs9 hMM); clear hs9 hMM; simp only [ResD.cells]))
                all_goals
                  go_wp2_with fail
                  go_roundw
                  case rel => exact ⟨k3 + 1, M3, by omega, by go_num, S14.out.1, fun hb => (S14.out.2 hb).trans (HM2.out hb)⟩
                  case measure => simp [intOf]; omega
              · obtain rfl : k3 = 5 := by omega
                have hkr2 : decide (((5 : Nat) : Int) < 5) = false := by decide
                have hkr3 : decide ((5 : Int) < 5) = false := by decide
                have hM : M2.length ≤ 1000 := Nat.le_trans (T0.out.ok.lens (6, ⟨M2, b⟩) (by simp [famS])) (by omega)
                go_wp2_with fail
                refine (iso_contents T0.out (by omega) 0 ⟨L2, false⟩ (by simp [famS, alook])).mono ?_
                rintro e w11 ⟨g4, rfl, st11⟩
                have S11 := Lib.hid st11
                clear st11 T0
                go_wp2_with fail
                refine (iso_contents S11.out (by omega) 6 ⟨M2, b⟩ (by simp [famS, alook])).mono ?_
                rintro e w12 ⟨g5, rfl, st12⟩
                have S12 := Lib.hid st12
                clear st12 S11
                go_wp2_with fail
                refine (awake_any _).mono ?_
                rintro e w13 ⟨rfl, hb13⟩
                have S13 := Lib.hid (S12.out.below' hb13)
                clear hb13 S12
                go_wp2_with fail
                refine (iso_eq (X := L2) S13.out (by simp) (by simp) hL2).mono ?_
                rintro e w14 ⟨rfl, st14⟩
                have S14 := Lib.hid st14
                clear st14 S13
                cases b
                · clear HM2
                  go_wp2_with fail
                  refine (hand_S S14.out (by omega)).mono ?_
                  rintro e w15 ⟨g6, rfl, hi6, hl6, hb15⟩
                  have I6 := Lib.hid (And.intro hi6 hl6)
                  have B15 := Lib.hid (S14.out.below.trans (hb15.mono S14.out.below.size))
                  clear hi6 hb15 S14
                  go_wp2_with fail
                  refine (two_eq w15 g6 I6.out.1 I6.out.2).mono ?_
                  rintro e w16 ⟨rfl, hb16⟩
                  have B16 := Lib.hid ((B15.out.alloc B15.out.size _).trans (hb16.mono (by have := B15.out.size; simp; omega)))
                  clear hb16
                  go_wp2_with fail
                  go_ret
                  exact ⟨rfl, B16.out⟩
                · obtain rfl : M2 = L := HM2.out rfl
                  clear HM2
                  go_wp2_with fail
                  refine (iso_eq (X := M2) S14.out (by simp) (by simp) hM).mono ?_
                  rintro e w14b ⟨rfl, st14⟩
                  clear S14
                  have S14 := Lib.hid st14
                  clear st14
                  go_wp2_with fail
                  refine (hand_S S14.out (by omega)).mono ?_
                  rintro e w15 ⟨g6, rfl, hi6, hl6, hb15⟩
                  have I6 := Lib.hid (And.intro hi6 hl6)
                  have B15 := Lib.hid (S14.out.below.trans (hb15.mono S14.out.below.size))
                  clear hi6 hb15 S14
                  go_wp2_with fail
                  refine (two_eq w15 g6 I6.out.1 I6.out.2).mono ?_
                  rintro e w16 ⟨rfl, hb16⟩
                  have B16 := Lib.hid ((B15.out.alloc B15.out.size _).trans (hb16.mono (by have := B15.out.size; simp; omega)))
                  clear hb16
                  go_wp2_with fail
                  go_ret
                  exact ⟨rfl, B16.out⟩
end Go.Proofs.Ytagfghihnkkfiaa
