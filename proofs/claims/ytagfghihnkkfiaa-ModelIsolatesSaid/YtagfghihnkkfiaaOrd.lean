/- The walk of ModelOrder. -/
import Derived.Test.YtagfghihnkkfiaaOrdP
import Derived.Test.YtagfghihnkkfiaaAwake
import Derived.Test.YtagfghihnkkfiaaKeys
import Derived.Test.YtagfghihnkkfiaaHashR
import Derived.Deep.LoopGhost
import Derived.Deep.DeepCutAuto
import Derived.Deep.QuietTactic
import Derived.BigQuiet
namespace Go.Proofs.Ytagfghihnkkfiaa
set_option linter.unusedVariables false
set_option linter.unusedSimpArgs false
open Go.RowKit Go.MapKept
theorem opE_small (kind handle : Int) : (opE kind handle).key.size ≤ maxLen := size_small _ (by show (⟨#[]⟩ : ByteArray).size ≤ 64; decide)
theorem refnum_9 (w : World) : Calls Try.prog 12 #[.int .i64 0, .int .i64 9] w fun e w' => e = .returned (.int .i64 10) ∧ w = w' := by
  go_enter Try.func12, Try.ntmps12
  go_wp2
  go_ret
  exact ⟨rfl, rfl⟩
theorem refnum_10 (w : World) : Calls Try.prog 12 #[.int .i64 0, .int .i64 10] w fun e w' => e = .returned (.int .i64 11) ∧ w = w' := by
  go_enter Try.func12, Try.ntmps12
  go_wp2
  go_ret
  exact ⟨rfl, rfl⟩
theorem hash_same (s : ByteArray) (m : Int) (w : World) (hs : s.size ≤ maxLen) (h0 : 0 ≤ m) (h1 : m ≤ 18446744073709551615) :
    Calls Try.prog 15 #[.string s, .int .u64 m] w fun e w' => e = .returned (.int .u64 (hashM s.data.toList m)) ∧ w' = w :=
  (hash_ref s m w hs h0 h1).mono fun _ _ ⟨a, b⟩ => ⟨a, b.symm⟩
theorem less_same (h k : Int) (a b : ByteArray) (w : World) (h0 : 0 ≤ h) (h1 : h ≤ 18446744073709551615) (k0 : 0 ≤ k) (k1 : k ≤ 18446744073709551615) :
    Calls Try.prog 14 #[.int .u64 h, .string a, .int .u64 k, .string b] w fun e w' => e = .returned (.bool (lessB h a.toList k b.toList)) ∧ w' = w :=
  (less_ref h k a b w h0 h1 k0 k1).mono fun _ _ ⟨a, b⟩ => ⟨a, b.symm⟩
def OrdLp1 (w : World) (m r : Int) (bt : Nat) (i : Value) (wr : World) : Prop :=
  ∃ (k : Nat) (L : List (ByteArray × Int)), (k : Int) ≤ r ∧ i = .int .i64 k ∧ KeySt w wr m L (k + 1) [] ∧ TapeIs wr w.heap.size bt ∧ w.heap.size + 4 ≤ bt
/-- the second part: the family with its iterator at p; wl: the world in which the contents lie at block g -/
structure OrdSt (w0 wl w : World) (m : Int) (L : List (ByteArray × Int)) (p : Int) (S : Nat → Prop) (g : Nat) : Prop where
  fam : FamA w (w0.heap.size + 3) w0.heap.size (w0.heap.size + 2) (famI m L p) S
  row : w.heap[g]? = wl.heap[g]?
  below : Below w0.heap.size w0 w
  size : wl.heap.size ≤ w.heap.size
structure OrdFix (w0 wl : World) (m : Int) (L : List (ByteArray × Int)) (S : Nat → Prop) (g : Nat) : Prop where
  ok : OkA 10 (fam1 m L)
  low : ∀ k, S k → w0.heap.size ≤ k ∧ k < wl.heap.size ∧ k ≠ g
  glt : g < wl.heap.size
  g0 : w0.heap.size ≤ g
  nodup : (L.map (·.1)).Nodup
  cell : ∀ P x, (sortedOf m L)[P]? = some x → wl.cell? ⟨g, P * 2, none⟩ = some (.string x.1) ∧ wl.cell? ⟨g, P * 2 + 1, none⟩ = some (.int .u64 x.2)
  z0 : w0.heap.size ≤ wl.heap.size
theorem OrdSt.alloc {w0 wl w : World} {m : Int} {L : List (ByteArray × Int)} {p : Int} {S : Nat → Prop} {g : Nat} (h : OrdSt w0 wl w m L p S g) (hf : OrdFix w0 wl m L S g) (o : Obj) : OrdSt w0 wl (w.alloc o) m L p S g :=
  ⟨h.fam.alloc o, (alloc_old w o g (by have := hf.glt; have := h.size; omega)).trans h.row, h.below.alloc h.below.size o, by have := h.size; simp; omega⟩
theorem OrdSt.below' {w0 wl w w' : World} {m : Int} {L : List (ByteArray × Int)} {p : Int} {S : Nat → Prop} {g : Nat} (h : OrdSt w0 wl w m L p S g) (hf : OrdFix w0 wl m L S g) (hb : Below w.heap.size w w') : OrdSt w0 wl w' m L p S g :=
  ⟨h.fam.below hb, (hb.block g (by have := hf.glt; have := h.size; omega)).trans h.row, h.below.trans (hb.mono h.below.size), Nat.le_trans h.size hb.size⟩
theorem OrdSt.setAt {w0 wl w : World} {m : Int} {L : List (ByteArray × Int)} {p : Int} {S : Nat → Prop} {g : Nat} (h : OrdSt w0 wl w m L p S g) (hf : OrdFix w0 wl m L S g) {b j : Nat} (hb : wl.heap.size ≤ b) (u : Value) : OrdSt w0 wl (w.setCell ⟨b, j, none⟩ u) m L p S g :=
  ⟨h.fam.keep fun k hk hs => Below.heap_setCell _ _ _ k (by show k ≠ b; have := (hf.low k hs).2.1; omega), (Below.heap_setCell _ _ _ g (by show g ≠ b; have := hf.glt; omega)).trans h.row, h.below.setCell (by show w0.heap.size ≤ b; have := hf.z0; omega) u, by rw [size_setCell]; exact h.size⟩
theorem OrdSt.drewN {w0 wl w : World} {m : Int} {L : List (ByteArray × Int)} {p : Int} {S : Nat → Prop} {g : Nat} (h : OrdSt w0 wl w m L p S g) (n : Nat) : OrdSt w0 wl (w.drewN n) m L p S g :=
  ⟨h.fam.keep fun k _ _ => rfl, h.row, below_drewN h.below n, h.size⟩
theorem OrdSt.cell {w0 wl w : World} {m : Int} {L : List (ByteArray × Int)} {p : Int} {S : Nat → Prop} {g : Nat} (h : OrdSt w0 wl w m L p S g) (hf : OrdFix w0 wl m L S g) {P : Nat} {x : ByteArray × Int} (hx : (sortedOf m L)[P]? = some x) :
    w.cell? ⟨g, P * 2, none⟩ = some (.string x.1) ∧ w.cell? ⟨g, P * 2 + 1, none⟩ = some (.int .u64 x.2) :=
  ⟨(World.cell?_of_block h.row).trans (hf.cell P x hx).1, (World.cell?_of_block h.row).trans (hf.cell P x hx).2⟩
theorem ord_step (w0 wl w : World) (m : Int) (L : List (ByteArray × Int)) (p p' : Int) (S : Nat → Prop) (g : Nat) (t i kind handle : Int) (r : ResD) (h : OrdSt w0 wl w m L p S g) (hf : OrdFix w0 wl m L S g) (p0 : 0 ≤ p) (p1 : p ≤ 10)
    (heq : applyA (famI m L p) t i (opE kind handle) = (famI m L p', r)) (h8 : kind ≠ 8) (h9 : kind ≠ 9) :
    Calls Try.prog 10 #[.pointer (some ⟨w0.heap.size + 3, 0, none⟩), .int .i64 t, .int .i64 i, (opE kind handle).val] w fun e w' =>
      e = .returned (.agg r.cells) ∧ OrdSt w0 wl w' m L p' S g ∧ Only S w w' := by
  refine (apply_to w _ _ _ (famI m L p) S 10 (by omega) t i (opE kind handle) (famI m L p') r h.fam (okI hf.ok p p0 p1) (opE_small _ _) heq h8 h9).mono fun e w' ⟨he, hff, ho⟩ => ⟨he, ⟨hff, (ho.block g (by have := hf.glt; have := h.size; omega) (fun hh => (hf.low g hh).2.2 rfl)).trans h.row, h.below.trans (ho.below h.below.size (fun k hk => (hf.low k hk).1)), Nat.le_trans h.size ho.size⟩, ho⟩
def OrdLp2 (w0 wl : World) (m : Int) (L : List (ByteArray × Int)) (S : Nat → Prop) (g : Nat) (i : Value) (wr : World) : Prop :=
  ∃ j : Nat, j ≤ L.length ∧ i = .int .i64 j ∧ OrdSt w0 wl wr m L j S g
def OrdMid (w0 wl : World) (m : Int) (L : List (ByteArray × Int)) (j : Nat) (x : ByteArray × Int) (S : Nat → Prop) (g c : Nat) (wx : World) : Prop :=
  OrdSt w0 wl wx m L (j + 1) S g ∧ ResAt wx c { found := true, key := x.1, value := x.2 }
def OrdMid2 (w0 wl : World) (m : Int) (L : List (ByteArray × Int)) (j : Nat) (S : Nat → Prop) (g : Nat) (s : Value) (wx : World) : Prop :=
  s = .bool false ∧ OrdSt w0 wl wx m L (j + 1) S g
theorem ResAt.store {w : World} {b : Nat} {r0 : ResD} (h : ResAt w b r0) (r : ResD) : ResAt ((((((((w.setCell ⟨b, 0, none⟩ (.int .i64 r.err)).setCell ⟨b, 1, none⟩ (.bool r.found)).setCell ⟨b, 2, none⟩ (.int .u64 r.value)).setCell ⟨b, 3, none⟩ (.string r.key)).setCell ⟨b, 4, none⟩ (.int .i64 r.count)).setCell ⟨b, 5, none⟩ (.int .i64 0)).setCell ⟨b, 6, none⟩ (.int .i64 0)).setCell ⟨b, 7, none⟩ (.bool false)) b r := by
  obtain ⟨e, f, v, k, c⟩ := r
  have a0 := blk_set h 0 (.int .i64 e)
  have a1 := blk_set a0 1 (.bool f)
  have a2 := blk_set a1 2 (.int .u64 v)
  have a3 := blk_set a2 3 (.string k)
  have a4 := blk_set a3 4 (.int .i64 c)
  have a5 := blk_set a4 5 (.int .i64 0)
  have a6 := blk_set a5 6 (.int .i64 0)
  have a7 := blk_set a6 7 (.bool false)
  unfold ResAt
  rw [a7]
  simp [ResD.cells]
theorem ResAt.frozen {w : World} {b : Nat} {r : ResD} (h : ResAt w b r) (j : Nat) : w.frozen? ⟨b, j, none⟩ = false := by
  unfold ResAt at h
  simp [World.frozen?, h]
set_option maxRecDepth 100000 in
set_option maxHeartbeats 4000000 in
theorem order_main (w : World) (m : Int) (A : Option Addr) (n c : Nat) (m0 : 0 ≤ m) (m1 : m ≤ 18446744073709551615) (hn : n ≤ 9223372036854775807)
    (hr : 0 < n → ∃ b off, A = some ⟨b, off, none⟩ ∧ b < w.heap.size ∧ ∀ k, k < n → ∃ z : Int, w.cell? ⟨b, off + k, none⟩ = some (.int .i64 z) ∧ -9223372036854775808 ≤ z ∧ z ≤ 9223372036854775807) :
    Calls Try.prog 3 #[.int .u64 m, .slice A n c] w fun e w' => e = .returned (.bool true) ∧ Below w.heap.size w w' := by
  have HR := Lib.hid hr
  clear hr
  go_enter Try.func3, Try.ntmps3
  go_wp2_with fail
  refine (new_A _ _).mono ?_
  rintro e w1 ⟨rfl, hb1, hz1, hf1⟩
  have HB := Lib.hid hb1
  have HF := Lib.hid hf1
  clear hf1 hb1
  go_wp2_with fail
  refine (tnew_any _ A n c).mono ?_
  rintro e w2 ⟨rfl, rfl⟩
  have st0 : KeySt w (w1.alloc (.cells #[.slice A n c, .int .i64 0] 80)) m [] 1 [] :=
    ⟨HF.out.alloc _, famO_ok m m0 m1, by simp, HB.out.alloc HB.out.size _, by simp; omega⟩
  have tp0 : TapeIs (w1.alloc (.cells #[.slice A n c, .int .i64 0] 80)) w.heap.size w1.heap.size := by
    refine TapeIs.made HB.out.size hn (fun h0 => ?_)
    obtain ⟨b, off, ha, hb, hc⟩ := HR.out h0
    exact ⟨b, off, ha, hb, fun k hk => by obtain ⟨z, hz, hz2⟩ := hc k hk; exact ⟨z, (HB.out.cell (p := ⟨b, off + k, none⟩) hb).trans hz, hz2⟩⟩
  have ST := Lib.hid st0
  have TP := Lib.hid tp0
  clear st0 tp0 HF HB HR
  go_wp2_with fail
  refine (tnext_any _ _ _ 9 TP.out (by omega) (by omega)).mono ?_
  rintro e w2 ⟨⟨r, r0, r1, rfl⟩, ht2, ho2⟩
  have ST2 := Lib.hid (ST.out.only ho2 (by omega) (by simp))
  have TP2 := Lib.hid ht2
  clear ht2 ho2 ST TP
  go_wp2_with fail
  go_loopw [8] (fun i wr => OrdLp1 w m r w1.heap.size i wr) (fun i _ => 9 - (intOf i).toNat)
  case atStart => exact ⟨0, [], by omega, rfl, ST2.out, TP2.out, by omega⟩
  case round =>
    obtain ⟨k, L, hk5, rfl, hst, htp, hbt⟩ := hrel
    have HS2 := Lib.hid hst
    have HT2 := Lib.hid htp
    clear hst htp ST2 TP2
    by_cases hkr : (k : Int) < r
    · go_wp2_with fail
      refine (tkey_any _ _ _ HT2.out).mono ?_
      rintro e w3 ⟨⟨ky, hky, rfl⟩, ht3, ho3⟩
      have HS3 := Lib.hid (HS2.out.only ho3 hbt (by simp))
      have HT3 := Lib.hid ht3
      have KS := Lib.hid (keys8_small hky)
      clear ht3 ho3 HS2 HT2 hky
      go_wp2_with fail
      refine (key_step0 _ _ m L (k + 1) [] k ⟨1, 0, ky, k, 0⟩ _ _ HS3.out (by omega) KS.out (by simp) (one_insert m L k (by omega) (by omega) ky k 0 KS.out)).mono ?_
      rintro e w4 ⟨rfl, hs4, ho4⟩
      have HS4 := Lib.hid hs4
      have HT4 := Lib.hid (HT3.out.only ho4 (by unfold blk4; omega) (fun k hk => by unfold blk4; omega))
      clear hs4 ho4 HS3 HT3
      simp only [ResD.cells]
      go_wp2_with fail
      go_roundw
      case rel => exact ⟨k + 1, _, by omega, by go_num, HS4.out, HT4.out, hbt⟩
      case measure => simp [intOf]; omega
    · have hkr' : decide ((k : Int) < r) = false := by simpa using hkr
      clear HT2 hkr
      go_wp2_with fail
      refine (copy_to _ _ _ _ (fam1 m L) _ 10 (by omega) 0 9 (opE 9 0) (famF m L) { found := true } HS2.out.fam (HS2.out.ok.more (by omega)) (opE_small _ _) (ord_freeze m L)).mono ?_
      rintro e w5 ⟨rfl, hf5, ho5⟩
      have ok10 := Lib.hid (HS2.out.ok.more (show k + 1 ≤ 10 by omega))
      have ND := Lib.hid HS2.out.nodup
      obtain ⟨S, hs0, hs1, hf5'⟩ : ∃ S : Nat → Prop, (∀ k, S k → w.heap.size ≤ k) ∧ (∀ k, S k → k < w5.heap.size) ∧ FamA w5 (w.heap.size + 3) w.heap.size (w.heap.size + 2) (famF m L) S := by
        have hz := HS2.out.size
        have hz2 := ho5.size
        refine ⟨_, ?_, ?_, hf5⟩
        · rintro k (hk | hk)
          · exact hk.1
          · omega
        · rintro k (hk | hk)
          · unfold blk4 at hk; omega
          · exact hk.2
      have B5 := Lib.hid (HS2.out.below.trans (ho5.below HS2.out.below.size (fun k hk => hk.1)))
      have HF5 := Lib.hid hf5'
      have S0 := Lib.hid hs0
      have S1 := Lib.hid hs1
      clear hf5 ho5 hf5' hs0 hs1 HS2
      simp only [ResD.cells]
      go_wp2_with fail
      refine (refnum_9 _).mono ?_
      rintro e w' ⟨rfl, rfl⟩
      go_wp2_with fail
      refine (apply_to _ _ _ _ (famF m L) S 10 (by omega) 0 10 (opE 12 10) (famI m L 0) { found := true } HF5.out (okF ok10.out) (opE_small _ _) (ord_iter m L) (by simp [opE]) (by simp [opE])).mono ?_
      rintro e w6 ⟨rfl, hf6, ho6⟩
      have HF6 := Lib.hid hf6
      have B6 := Lib.hid (B5.out.trans (ho6.below B5.out.size S0.out))
      have hz6 : w5.heap.size ≤ w6.heap.size := ho6.size
      clear hf6 ho6 HF5 B5
      simp only [ResD.cells]
      go_wp2_with fail
      refine (contents_A _ _ _ _ (famI m L 0) S 10 (by omega) 0 ⟨L, false⟩ HF6.out (okI ok10.out 0 (by omega) (by omega)) (by simp [famI, alook])).mono ?_
      rintro e wl ⟨v, rfl, g, rfl, hg, hbl⟩
      have FIX : Hid (OrdFix w wl m L S g) := by
        have hz := hbl.size
        have hz6' := B6.out.size
        have hgg : w6.heap.size ≤ g ∧ g < wl.heap.size := by
          rcases hg.2 with ⟨h1, _⟩ | ⟨g', cap, cur, h1, hb, h2, _⟩
          · simp at h1
          · simp at h1
            have := (Array.getElem?_eq_some_iff.1 h2).1
            omega
        exact ⟨ok10.out, fun k hk => ⟨S0.out k hk, by have := S1.out k hk; omega, by have := S1.out k hk; omega⟩, hgg.2, by omega, ND.out, fun P x hx => ⟨(pair_at hg hx).1, (pair_at hg hx).2.1⟩, by omega⟩
      have SL : Hid (OrdSt w wl wl m L 0 S g) := ⟨HF6.out.below hbl, rfl, B6.out.trans (hbl.mono B6.out.size), Nat.le_refl _⟩
      have hL10 : L.length ≤ 10 := ok10.out.lens (0, ⟨L, false⟩) (by simp [fam1])
      have hww : w.heap.size ≤ wl.heap.size := FIX.out.z0
      clear hg hbl HF6 B6 S0 S1 ND ok10 hkr'
      go_wp2_with fail
      go_loopw [50] (fun i wr => OrdLp2 w wl m L S g i wr) (fun i _ => L.length - (intOf i).toNat)
      case atStart => exact ⟨0, by omega, rfl, SL.out⟩
      case round =>
        obtain ⟨j, hj, rfl, hst⟩ := hrel
        have HS := Lib.hid hst
        have hzr : wl.heap.size ≤ wr.heap.size := hst.size
        clear hst SL
        by_cases hjl : j < L.length
        · obtain ⟨x, hx⟩ : ∃ x, (sortedOf m L)[j]? = some x := ⟨_, List.getElem?_eq_getElem (by rw [sortedOf_length]; exact hjl)⟩
          have HX := Lib.hid hx
          clear hx
          go_wp2_with fail
          refine (refnum_10 _).mono ?_
          rintro e w' ⟨rfl, rfl⟩
          go_wp2_with fail
          refine (ord_step _ _ _ m L j j S g 1 j 13 11 { err := 5 } HS.out FIX.out (by omega) (by omega) (ord_lost m L j j (by omega) (by omega)) (by decide) (by decide)).mono ?_
          rintro e w7 ⟨rfl, hs7, ho7⟩
          have hz7 : wl.heap.size ≤ w7.heap.size := hs7.size
          have H7 := Lib.hid (hs7.alloc FIX.out (.cells (ResD.cells { err := 5 }) 35))
          have R7 := Lib.hid (ResAt.made w7 { err := 5 })
          clear hs7 ho7 HS
          simp only [ResD.cells]
          go_upto_region 19 with (fail)
          go_cut [] (fun wx => OrdMid w wl m L j x S g w7.heap.size wx)
          case first =>
            go_wp2_with fail
            refine (refnum_10 _).mono ?_
            rintro e w' ⟨rfl, rfl⟩
            go_wp2_with fail
            refine (ord_step _ _ _ m L j (j + 1) S g 0 11 13 11 { found := true, key := x.1, value := x.2 } H7.out FIX.out (by omega) (by omega) (ord_next m L j x HX.out) (by decide) (by decide)).mono ?_
            rintro e w8 ⟨rfl, hs8, ho8⟩
            have R8 := R7.out.only ho8 (fun hh => by have := (FIX.out.low _ hh).2.1; omega)
            have u0 := R8.cell
            have u1 := R8.frozen
            have R8 := Lib.hid R8
            have HS8 := Lib.hid hs8
            clear hs8 ho8 H7 R7
            simp only [ResD.cells] at u0 ⊢
            go_wp2_with fail
            go_meet
            refine ⟨?_, R8.out.store { found := true, key := x.1, value := x.2 }⟩
            iterate 8 (refine OrdSt.setAt ?_ FIX.out hz7 _)
            exact HS8.out
          case rest =>
            obtain ⟨wo, rfl⟩ : ∃ wo : World, wo = wc := ⟨_, rfl⟩
            obtain ⟨hs9, r9⟩ := hcut
            have q9 := r9.cell
            obtain ⟨c1, c2⟩ := hs9.cell FIX.out HX.out
            have HS9 := Lib.hid hs9
            have hj0 : (0 : Int) ≤ j := by omega
            have hj1 : (j : Int) < L.length := by omega
            simp only [ResD.cells] at q9
            clear hs9 r9 H7 R7
            go_upto_region 20 with (fail)
            go_cut [77] (fun s wx => OrdMid2 w wl m L j S g s wx)
            case first =>
              go_quiet (fail)
              go_wp2_with fail
              go_meet
              exact ⟨rfl, HS9.out.drewN _⟩
            case rest =>
              obtain ⟨wp, rfl⟩ : ∃ wp : World, wp = wc := ⟨_, rfl⟩
              obtain ⟨rfl, hs10⟩ := hcut
              have HS10 := Lib.hid hs10
              clear hs10 q9 c1 c2 HS9
              go_upto_region 22 with (fail)
              go_cut [109] (fun s wx => OrdMid2 w wl m L j S g s wx)
              case first =>
                by_cases hjz : 0 < j
                · obtain ⟨q, rfl⟩ : ∃ q, j = q + 1 := ⟨j - 1, by omega⟩
                  obtain ⟨y, hy⟩ : ∃ y, (sortedOf m L)[q]? = some y := ⟨_, List.getElem?_eq_getElem (by rw [sortedOf_length]; omega)⟩
                  obtain ⟨c1, c2⟩ := HS10.out.cell FIX.out HX.out
                  obtain ⟨d1, d2⟩ := HS10.out.cell FIX.out hy
                  have hlt := ltP_chain FIX.out.nodup hy HX.out
                  have kx : x.1.size ≤ maxLen := size_small _ (FIX.out.ok.keys (0, ⟨L, false⟩) (by simp [fam1]) x ((sortedOf_perm m L).subset (List.mem_of_getElem? HX.out)))
                  have ky : y.1.size ≤ maxLen := size_small _ (FIX.out.ok.keys (0, ⟨L, false⟩) (by simp [fam1]) y ((sortedOf_perm m L).subset (List.mem_of_getElem? hy)))
                  unfold ltP at hlt
                  clear hy c2 d2
                  have e1 : ((q : Int) + 1 - 1) = q := by omega
                  have e2 : IntKind.i64.wrap ((q : Int) + 1 - 1) = q := by rw [e1]; exact IntWalk.i64_in _ (by omega)
                  have e3 : decide ((0 : Int) < (q : Int) + 1) = true := decide_eq_true (by omega)
                  have e4 : (0 : Int) ≤ q := by omega
                  have e5 : (q : Int) < L.length := by omega
                  have e6 : (0 : Int) ≤ (q : Int) + 1 := by omega
                  have e7 : (q : Int) + 1 < L.length := by omega
                  go_quiet ((first | (go_at_call 15; exact Calls.quiet_of_same (hash_same _ _ _ (by first | exact kx | exact ky) m0 m1)) | (go_at_call 14; exact Calls.quiet_of_same (less_same _ _ _ _ _ (hashM_bd _ _).1 (hashM_bd _ _).2 (hashM_bd _ _).1 (hashM_bd _ _).2))))
                  go_wp2_with fail
                  go_meet
                  exact ⟨rfl, HS10.out.drewN _⟩
                · have e1 : decide ((0 : Int) < (j : Int)) = false := decide_eq_false (by omega)
                  have e2 : decide (0 < j) = false := decide_eq_false (by omega)
                  go_quiet (fail)
                  go_wp2_with fail
                  go_meet
                  exact ⟨rfl, HS10.out.drewN _⟩
              case rest =>
                obtain ⟨rfl, hs11⟩ := hcut
                have HS11 := Lib.hid hs11
                clear hs11 HS10
                go_wp2_with fail
                go_roundw
                case rel => exact ⟨j + 1, by omega, by go_num, HS11.out⟩
                case measure => simp [intOf]; omega
        · obtain rfl : j = L.length := by omega
          go_wp2_with fail
          refine (awake_any _).mono ?_
          rintro e w8 ⟨rfl, hb8⟩
          have HS8 := Lib.hid (HS.out.below' FIX.out hb8)
          clear hb8 HS
          go_wp2_with fail
          refine (refnum_10 _).mono ?_
          rintro e w' ⟨rfl, rfl⟩
          go_wp2_with fail
          refine (ord_step _ _ _ m L L.length L.length S g 0 12 13 11 {} HS8.out FIX.out (by omega) (by omega) (ord_end m L) (by decide) (by decide)).mono ?_
          rintro e w9 ⟨rfl, hs9, ho9⟩
          have HS9 := Lib.hid hs9
          clear hs9 ho9 HS8
          simp only [ResD.cells]
          go_wp2_with fail
          refine (refnum_9 _).mono ?_
          rintro e w' ⟨rfl, rfl⟩
          go_wp2_with fail
          refine (ord_step _ _ _ m L L.length L.length S g 0 13 11 10 { count := L.length } HS9.out FIX.out (by omega) (by omega) (ord_size m L L.length) (by decide) (by decide)).mono ?_
          rintro e w10 ⟨rfl, hs10, ho10⟩
          have HS10 := Lib.hid hs10
          clear hs10 ho10 HS9
          simp only [ResD.cells]
          go_wp2_with fail
          go_ret
          exact ⟨rfl, HS10.out.below⟩
end Go.Proofs.Ytagfghihnkkfiaa
