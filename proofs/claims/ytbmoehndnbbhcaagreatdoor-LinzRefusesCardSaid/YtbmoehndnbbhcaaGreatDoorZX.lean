/- The walk of the reference's Accepts. -/
import Derived.Test.YtbmoehndnbbhcaaGreatDoorZV
import Derived.Test.YtbmoehndnbbhcaaGreatDoorMRApG
namespace Go.Proofs.YtbmoehndnbbhcaaGreatDoor
set_option linter.unusedVariables false
set_option linter.unusedSimpArgs false
open Go Go.RowKit Go.MapKept
/-- the reference's family fits -/
theorem refOf_room {N : Nat} {A : AFam} (ok : OkA N A) (hi : A.iters.length ≤ N) (hN : N < 1048576) : RRoom (refOf A) := by
  refine ⟨by have := ok.count; simp [refOf]; omega, by simp only [refOf]; omega, fun x hx => ?_, fun p hp => ?_⟩
  · obtain ⟨q, hq, rfl⟩ := List.mem_map.1 hx
    have := ok.lens q hq
    show (sortedOf A.mask q.2.vals).length < 1048576
    rw [sortedOf_length]
    omega
  · have := ok.nums p hp
    rw [← findM_isSome A.mask] at this
    exact this
/-- what the reference's Apply leaves -/
def GPost (T : Nat → Prop) (W : World) (A1 : AFam) (r : ResD) (e : Ending) (W' : World) : Prop :=
  ∃ (A' : Option Addr) (c' : Nat) (D' : Option Addr) (d' : Nat), e = .returned (.tuple #[rfamV (refOf A1) A' c' D' d', .agg r.cells]) ∧ RFamAt (fun b => T b ∨ NewB W W' b) W' A' D' (refOf A1) ∧ Below W.heap.size W W' ∧ (D' = none → d' = 0)
theorem gapply_any {T : Nat → Prop} {W : World} {Ar Dr : Option Addr} {c d N : Nat} {A0 : AFam} (h : RFamAt T W Ar Dr (refOf A0)) (nd : NdA A0) (ok : OkA N A0) (its : A0.iters.length ≤ N) (hN : N < 1048576) (dn : Dr = none → d = 0) (t i : Int) (ht : -9223372036854775808 ≤ t ∧ t ≤ 9223372036854775807) (hi : -9223372036854775808 ≤ i ∧ i ≤ 9223372036854775807) (o : OpD) (hk : o.key.size ≤ maxLen) :
    Calls Tryz.prog 29 #[rfamV (refOf A0) Ar c Dr d, .int .i64 t, .int .i64 i, o.val] W (GPost T W (applyA A0 t i o).1 (applyA A0 t i o).2) := by
  refine (rapply_any T W Ar Dr c d (refOf A0) h t i ht hi o hk dn (refOf_room ok its hN)).mono fun e w' hp => ?_
  rw [apply_ref nd] at hp
  exact hp
/-- the order, so far -/
def RoOut (w : World) (l : List EvD) (order : List OpP) (i : Value) (wr : World) : Prop :=
  ∃ j : Nat, j ≤ order.length ∧ i = .int .i64 j ∧ (∀ (i k : Nat) (x y : OpP), order[i]? = some x → order[k]? = some y → k < i → i < j → beforeP l x y = false) ∧ Below w.heap.size w wr
def RoIn (w : World) (l : List EvD) (order : List OpP) (J : Nat) (x : OpP) (i : Value) (wr : World) : Prop :=
  ∃ k : Nat, k ≤ J ∧ i = .int .i64 k ∧ (∀ (m : Nat) (y : OpP), m < k → order[m]? = some y → beforeP l x y = false) ∧ Below w.heap.size w wr
structure RaAt (wb : World) (fb N : Nat) (A0 : AFam) (T : Nat → Prop) (Ar Dr : Option Addr) (c d : Nat) (wr : World) : Prop where
  fam : RFamAt T wr Ar Dr (refOf A0)
  box : wr.heap[fb]? = some (.cells #[.int .u64 (refOf A0).mask, .slice Ar (refOf A0).maps.length c, .slice Dr (refOf A0).walks.length d] 72 (0, 0))
  nd : NdA A0
  ok : OkA N A0
  its : A0.iters.length ≤ N
  val : ValA A0
  apart : ∀ b, T b → b ≠ fb ∧ b < wr.heap.size
  dn : Dr = none → d = 0
  below : Below wb.heap.size wb wr
def RaRel (wb : World) (fb : Nat) (ts : List (List OpD)) (l : List EvD) (order : List OpP) (mask : Int) (i : Value) (wr : World) : Prop :=
  ∃ (j : Nat) (A0 : AFam) (T : Nat → Prop) (Ar Dr : Option Addr) (c d : Nat), j ≤ order.length ∧ i = .int .i64 j ∧ RaAt wb fb (j + 1) A0 T Ar Dr c d wr ∧ playP ts l (famO mask) order = playP ts l A0 (order.drop j)
theorem res_eq_of' {e re v rv c rc r x : Int} {f rf y : Bool} {k rk : ByteArray} (h1 : re = e) (h2 : rf = f) (h3 : rv = v) (h4 : rk.toList = k.toList) (h5 : rc = c) (h6 : 0 = r) (h7 : r = x) (h8 : ¬ y = true) : (⟨e, f, v, k, c, r, x, y⟩ : ResF) = ⟨re, rf, rv, rk, rc, 0, 0, false⟩ :=
  res_eq_of h1.symm h2.symm h3.symm h4.symm h5.symm h6.symm (h7.symm.trans h6.symm) h8
theorem ref_O (m : Int) : refOf (famO m) = fam0 m := by simp [refOf, famO, refM, fam0, sortedOf]
theorem nd_O (m : Int) : NdA (famO m) := ⟨by simp [famO], by simp [famO], fun p hp => by
  simp only [famO, List.mem_singleton] at hp
  subst hp
  simp⟩
/-- behind the reference's Apply: two boxes -/
def GMid (W1 : World) (fb : Nat) (A1 : AFam) (r : ResD) (v15 v16 : Value) (wx : World) : Prop :=
  ∃ (q p : Nat) (T' : Nat → Prop) (A' D' : Option Addr) (c' d' : Nat), v15 = .pointer (some ⟨q, 0, none⟩) ∧ v16 = .pointer (some ⟨p, 0, none⟩) ∧ wx.heap[q]? = some (.cells #[.int .u64 (refOf A1).mask, .slice A' (refOf A1).maps.length c', .slice D' (refOf A1).walks.length d'] 72 (0, 0)) ∧ wx.heap[p]? = some (.cells r.cells 45 (0, 0)) ∧
    RFamAt T' wx A' D' (refOf A1) ∧ (∀ b, T' b → b ≠ fb ∧ b < wx.heap.size) ∧ (D' = none → d' = 0) ∧ q ≠ fb ∧ Below W1.heap.size W1 wx
theorem set3_turned (W : World) (q : Nat) (u0 u1 u2 : Value) : Turned q W (((W.setCell ⟨q, 0, none⟩ u0).setCell ⟨q, 1, none⟩ u1).setCell ⟨q, 2, none⟩ u2) := turned_more (turned_more (turned_set W q 0 u0))
theorem set3_here {W : World} {q : Nat} {a0 a1 a2 : Value} {T : TypeId} (h : W.heap[q]? = some (.cells #[a0, a1, a2] T (0, 0))) (u0 u1 u2 : Value) : (((W.setCell ⟨q, 0, none⟩ u0).setCell ⟨q, 1, none⟩ u1).setCell ⟨q, 2, none⟩ u2).heap[q]? = some (.cells #[u0, u1, u2] T (0, 0)) := by
  rw [cells_set (cells_set (cells_set h u0) u1) u2]; simp
theorem turned_only {q : Nat} {S : Nat → Prop} {a b c : World} (h : Only S a b) (ht : Turned q b c) (hq : S q ∨ a.heap.size ≤ q) : Only S a c :=
  ⟨ht.os.trans h.os, ht.tape.trans h.tape, ht.output.trans h.output, by rw [ht.size]; exact h.size, fun k hk hs => (ht.block k fun e => by
    subst e
    rcases hq with hq | hq
    · exact hs hq
    · omega).trans (h.block k hk hs)⟩
theorem gmid_of {W1 W w8 wx : World} {fb q p : Nat} {T : Nat → Prop} {A1 : AFam} {r : ResD} {A' D' : Option Addr} {c' d' : Nat} (hf : RFamAt (fun b => T b ∨ NewB W w8 b) w8 A' D' (refOf A1)) (hT : ∀ b, T b → b ≠ fb ∧ b < W1.heap.size) (hfb : fb < W1.heap.size) (hd : D' = none → d' = 0) (hW : Below W1.heap.size W1 W) (hb : Below W1.heap.size W1 w8)
    (hq : wx.heap[q]? = some (.cells #[.int .u64 (refOf A1).mask, .slice A' (refOf A1).maps.length c', .slice D' (refOf A1).walks.length d'] 72 (0, 0))) (hp : wx.heap[p]? = some (.cells r.cells 45 (0, 0))) (ho : Only (fun b => b = q ∨ b = p) w8 wx)
    (q1 : W1.heap.size ≤ q ∧ (q < W.heap.size ∨ w8.heap.size ≤ q)) (p1 : W1.heap.size ≤ p ∧ (p < W.heap.size ∨ w8.heap.size ≤ p)) :
    GMid W1 fb A1 r (.pointer (some ⟨q, 0, none⟩)) (.pointer (some ⟨p, 0, none⟩)) wx := by
  have zW := hW.size
  have z8 := hb.size
  have z9 := ho.size
  refine ⟨q, p, fun b => T b ∨ NewB W w8 b, A', D', c', d', rfl, rfl, hq, hp, hf.keep ⟨ho.size, fun b hTb hlt => ho.block b hlt ?_⟩, fun b hTb => ?_, hd, by omega, hb.trans (ho.below z8 fun b hbb => by rcases hbb with rfl | rfl <;> omega)⟩
  · rintro (rfl | rfl)
    · rcases hTb with h | h
      · have := hT _ h; omega
      · have := h.1; have := h.2; omega
    · rcases hTb with h | h
      · have := hT _ h; omega
      · have := h.1; have := h.2; omega
  · rcases hTb with h | h
    · have := hT _ h; exact ⟨this.1, by omega⟩
    · have := h.1; have := h.2; exact ⟨by omega, by omega⟩
set_option maxRecDepth 100000 in
set_option maxHeartbeats 4000000 in
theorem raccepts_any (w : World) (mask : Int) (m0 : 0 ≤ mask) (m1 : mask ≤ 18446744073709551615) (A B O : Option Addr) (c d co : Nat) (ts : List (List OpD)) (l : List EvD) (order : List OpP) (hA : ThrAt w A ts) (hB : EvsAt w B l) (hO : OrdAt w O order) (ft : ThrFit ts) (fe : EvsFit l) (hf : OrdFit order) (vt : ValT ts) (hn : order.length ≤ 1000000) :
    Calls Tryz.prog 9 #[.int .u64 mask, .slice A ts.length c, .slice B l.length d, .slice O order.length co] w fun e w' => e = .returned (.int .i64 (acceptsP mask ts l order)) ∧ Below w.heap.size w w' := by
  have HA := Lib.hid hA
  have HB := Lib.hid hB
  have HO := Lib.hid hO
  have FT := Lib.hid ft
  have FE := Lib.hid fe
  have HF := Lib.hid hf
  have VT := Lib.hid vt
  have hl := fe.len
  clear hA hB hO ft fe hf vt
  go_enter Tryz.func9, Tryz.ntmps9
  go_wp2_with (first | (go_at_call 5; refine stopAt ?_))
  unfold StopAt
  refine (rcheck_any w A B c d ts l HA.out HB.out FT.out FE.out).mono ?_
  rintro e w1 ⟨rfl, hb1⟩
  have B1 := Lib.hid hb1
  clear hb1
  by_cases hc : checkP (lens ts) l = 0
  case neg =>
    have R := Lib.hid (acc_check (mask := mask) (order := order) hc)
    have hcb : (checkP (lens ts) l != 0) = true := by simpa using hc
    generalize checkP (lens ts) l = q at *
    go_wp2_with fail
    go_ret
    exact ⟨ret_int R.out.symm, B1.out⟩
  have HC := Lib.hid hc
  have HP := Lib.hid (check_zero hc).2
  rw [HC.out]
  clear hc
  go_wp2_with (first | (go_at_call 25; refine stopAt ?_))
  unfold StopAt
  refine (rexcused_any w1 A B c d ts l (HA.out.below B1.out) (HB.out.below B1.out) FT.out hl HP.out).mono ?_
  rintro e w3 ⟨rfl, hb3⟩
  have B3 := Lib.hid (B1.out.trans (hb3.mono B1.out.size))
  clear hb3
  cases he : excusedP ts l with
  | false =>
    have R := Lib.hid (acc_exc (mask := mask) (order := order) HC.out he)
    clear he
    go_wp2_with fail
    go_ret
    exact ⟨ret_int R.out.symm, B3.out⟩
  | true =>
  have HE := Lib.hid he
  clear he
  go_wp2_with (first | (go_at_call 26; refine stopAt ?_))
  unfold StopAt
  refine (rmembers_any w3 B O d co l order (HB.out.below B3.out) FE.out (HO.out.below B3.out) HF.out (by omega)).mono ?_
  rintro e w4 ⟨rfl, hb4⟩
  have B4 := Lib.hid (B3.out.trans (hb4.mono B3.out.size))
  clear hb4
  cases hm : membersP l order with
  | false =>
    have R := Lib.hid (acc_mem (mask := mask) HC.out HE.out hm)
    clear hm
    go_wp2_with fail
    go_ret
    exact ⟨ret_int R.out.symm, B4.out⟩
  | true =>
  have HM := Lib.hid hm
  clear hm
  have EX := Lib.hid (fun (a : OpP) (ha : a ∈ order) => members_ex HP.out HM.out ha)
  go_wp2_with fail
  go_loopw [10] (fun i wr => RoOut w4 l order i wr) (fun i _ => order.length - (intOf i).toNat)
  case atStart => exact ⟨0, by omega, rfl, fun i k x y _ _ _ h => by omega, Below.refl _ _⟩
  case round =>
    obtain ⟨J, hj, rfl, hall, hb⟩ := hrel
    have AL := Lib.hid hall
    have BR := Lib.hid hb
    clear hall hb
    by_cases hlt : J < order.length
    · obtain ⟨x, hx⟩ : ∃ x, order[J]? = some x := ⟨_, List.getElem?_eq_getElem hlt⟩
      have HX := Lib.hid hx
      have hj0 : (0 : Int) ≤ J := by omega
      have hj1 : (J : Int) < order.length := by omega
      have BQ := Lib.hid (B4.out.trans (BR.out.mono B4.out.size))
      obtain ⟨b, off, rfl, hbz, hcc⟩ := HO.out (by omega)
      have HCC := Lib.hid hcc
      clear hx hcc
      go_wp2_with fail
      go_loopw [11] (fun i wr => RoIn w4 l order J x i wr) (fun i _ => J - (intOf i).toNat)
      case atStart => exact ⟨0, by omega, rfl, fun m y h => by omega, BR.out⟩
      case round =>
        obtain ⟨K, hk, rfl, hall2, hb2⟩ := hrel
        have AK := Lib.hid hall2
        have BK := Lib.hid hb2
        clear hall2 hb2
        by_cases hlk : K < J
        · obtain ⟨y, hy⟩ : ∃ y, order[K]? = some y := ⟨_, List.getElem?_eq_getElem (by omega)⟩
          have HY := Lib.hid hy
          have hk0 : (0 : Int) ≤ K := by omega
          have hk1 : (K : Int) < order.length := by omega
          clear hy
          obtain ⟨x0, x1⟩ := x
          obtain ⟨y0, y1⟩ := y
          have BT := Lib.hid (B4.out.trans (BK.out.mono B4.out.size))
          have KC : Hid (∀ W, Below wr.heap.size wr W → (W.cell? ⟨b, off + J * 2, none⟩ = some (.int .i64 x0) ∧ W.cell? ⟨b, off + J * 2 + 1, none⟩ = some (.int .i64 x1)) ∧ W.cell? ⟨b, off + K * 2, none⟩ = some (.int .i64 y0) ∧ W.cell? ⟨b, off + K * 2 + 1, none⟩ = some (.int .i64 y1)) := fun W hW => by
            have hh := BT.out.trans (hW.mono BT.out.size)
            obtain ⟨p0, p1⟩ := HCC.out J _ HX.out
            obtain ⟨p2, p3⟩ := HCC.out K _ HY.out
            exact ⟨⟨(hh.cell (p := ⟨b, _, none⟩) hbz).trans p0, (hh.cell (p := ⟨b, _, none⟩) hbz).trans p1⟩, (hh.cell (p := ⟨b, _, none⟩) hbz).trans p2, (hh.cell (p := ⟨b, _, none⟩) hbz).trans p3⟩
          have WH : Hid (∀ W, Below wr.heap.size wr W → Calls Tryz.prog 27 #[.slice B l.length d, .agg #[.int .i64 x0, .int .i64 x1], .agg #[.int .i64 y0, .int .i64 y1]] W fun e w' => e = .returned (.bool (beforeP l (x0, x1) (y0, y1))) ∧ Below wr.heap.size wr w') :=
            fun W hW => (before_any W B d l hl (HB.out.below (BT.out.trans (hW.mono BT.out.size))) x0 x1 y0 y1).mono fun e w' p => ⟨p.1, hW.trans (p.2.mono hW.size)⟩
          have BD : Hid (Below wr.heap.size wr wr.drew) := (Below.refl _ _).drew
          go_wp2_with fail
          refine wp_region_class (C := fun W => Below wr.heap.size wr W) (by kernel_rfl) (by kernel_rfl) BD.out ?_
          repeat (first | go_big_quiet_step (fail) | (refine' wpQuiet_take (by kernel_rfl) (fun W hW => ?_) ?_; rotate_left; (obtain ⟨⟨p0, p1⟩, p2, p3⟩ := KC.out W hW); go_simp; (first | rfl | (with_reducible exact WH.out _ hW)); (simp only [Act.put, List.setIfInBounds_toArray, List.set_cons_zero, List.set_cons_succ])))
          refine wpQuiet_nil ?_
          intro w5 hb5
          have BW := Lib.hid (BK.out.trans (hb5.mono BK.out.size))
          clear hb5
          cases hbf : beforeP l (x0, x1) (y0, y1) with
          | true =>
            have R := Lib.hid (acc_ord (mask := mask) HC.out HE.out HM.out (fun h => by rw [h J K _ _ HX.out HY.out hlk] at hbf; simp at hbf))
            have BZ := Lib.hid (B4.out.trans (BW.out.mono B4.out.size))
            clear hbf
            go_wp2_with fail
            go_ret
            exact ⟨ret_int R.out.symm, BZ.out⟩
          | false =>
            have NY : Hid (RoIn w4 l order J (x0, x1) (.int .i64 ((K : Int) + 1)) w5) := ⟨K + 1, by omega, by go_num, fun m y hm hy => by
              by_cases hmk : m = K
              · subst hmk
                rw [HY.out] at hy
                obtain rfl := Option.some.inj hy
                exact hbf
              · exact AK.out m y (by omega) hy, BW.out⟩
            clear hbf
            go_wp2_with fail
            go_roundw
            case rel => exact NY.out
            case measure => simp [intOf]; omega
        · have NY : Hid (RoOut w4 l order (.int .i64 ((J : Int) + 1)) wr) := ⟨J + 1, by omega, by go_num, fun i k x' y hx hy hki hij => by
            by_cases hiJ : i = J
            · subst hiJ
              rw [HX.out] at hx
              obtain rfl := Option.some.inj hx
              exact AK.out k y (by omega) hy
            · exact AL.out i k x' y hx hy hki (by omega), BK.out⟩
          go_wp2_with fail
          go_roundw
          case rel => exact NY.out
          case measure => simp [intOf]; omega
    · have HD : Hid (OrderedP l order) := fun i k x y hx hy hki => AL.out i k x y hx hy hki (by have := (List.getElem?_eq_some_iff.1 hx).1; omega)
      have B5 := Lib.hid (B4.out.trans (BR.out.mono B4.out.size))
      clear AL
      go_wp2_with (first | (go_at_call 28; refine stopAt ?_))
      unfold StopAt
      refine (newfam_any wr mask m0 m1).mono ?_
      rintro e w6 ⟨Ar, he, hr, hb6⟩
      simp only [rfamV] at he
      subst he
      have FA := Lib.hid hr
      have B6 := Lib.hid (B5.out.trans (hb6.mono B5.out.size))
      have hz6 := hb6.size
      have LS : Hid (RaRel w6 w6.heap.size ts l order mask (.int .i64 0) (w6.alloc (.cells #[.int .u64 mask, .slice Ar 1 1, .slice none 0 0] 72))) :=
        ⟨0, famO mask, NewB wr w6, Ar, none, 1, 0, by omega, rfl, ⟨by rw [ref_O]; exact FA.out.below (balZ (Below.refl _ _) _), by rw [ref_O]; exact (heap_alloc w6 _).1, nd_O mask, famO_ok mask m0 m1, by simp [famO], val_O mask, fun b hb => by have := hb.2; simp; omega, fun _ => rfl, balZ (Below.refl _ _) _⟩, by simp⟩
      clear hr hb6 hz6 FA
      simp only [fam0, List.length_cons, List.length_nil, Nat.zero_add]
      go_wp2_with fail
      go_loopw [58] (fun i wr => RaRel w6 w6.heap.size ts l order mask i wr) (fun i _ => order.length - (intOf i).toNat)
      case atStart => exact LS.out
      case round =>
        clear LS
        obtain ⟨j, A0, T, Ar', Dr, cf, df, hj2, rfl, hra, hplay⟩ := hrel
        have RA := Lib.hid hra
        have PL := Lib.hid hplay
        clear hra hplay
        generalize hfb : w6.heap.size = fb at *
        by_cases hlt2 : j < order.length
        · obtain ⟨a, ha⟩ : ∃ a, order[j]? = some a := ⟨_, List.getElem?_eq_getElem hlt2⟩
          have BQ := Lib.hid (B6.out.trans (RA.out.below.mono B6.out.size))
          obtain ⟨b, off, rfl, hbz, hc⟩ := HO.out (by omega)
          obtain ⟨c0, c1⟩ := hc j a ha
          have z0 := (BQ.out.cell (p := ⟨b, _, none⟩) hbz).trans c0
          have z1 := (BQ.out.cell (p := ⟨b, _, none⟩) hbz).trans c1
          have hj0 : (0 : Int) ≤ j := by omega
          have hj1 : (j : Int) < order.length := by omega
          obtain ⟨t, i, tt, o, rfl, ht, hoo, hop⟩ := exP_get (EX.out a (List.mem_of_getElem? ha))
          have TB := Lib.hid (HF.out _ (List.mem_of_getElem? ha))
          have HX := Lib.hid ha
          have HT := Lib.hid (And.intro ht hoo)
          have HPP := Lib.hid hop
          have HK := Lib.hid (VT.out.key tt (List.mem_of_getElem? ht) o (List.mem_of_getElem? hoo))
          have HV := Lib.hid (VT.out.value tt (List.mem_of_getElem? ht) o (List.mem_of_getElem? hoo))
          have htl := (List.getElem?_eq_some_iff.1 ht).1
          have hil := (List.getElem?_eq_some_iff.1 hoo).1
          have hl1 := FT.out.len
          have hl2 := FT.out.each tt (List.mem_of_getElem? ht)
          obtain ⟨ba, offa, rfl, hba, hca⟩ := HA.out (by omega)
          obtain ⟨u, cu, k1, k2⟩ := hca t tt ht
          obtain ⟨bo, offo, rfl, hbo, hco⟩ := k2 (by omega)
          have OC := Lib.hid (hco i o hoo)
          have K1 := Lib.hid k1
          have t0 : (0 : Int) ≤ t := by omega
          have t1 : (t : Int) < ts.length := by omega
          have i0 : (0 : Int) ≤ i := by omega
          have i1 : (i : Int) < tt.length := by omega
          clear hc c0 c1 ha ht hoo hop hca k1 k2 hco
          simp only at z0 z1
          go_upto_region 20 with fail
          obtain ⟨W1, hW1⟩ : ∃ W1, W1 = wr.alloc (.cells #[.int .i64 t, .int .i64 i] 37) := ⟨_, rfl⟩
          have B2' : Hid (Below wr.heap.size wr W1) := by rw [hW1]; exact balZ (Below.refl _ _) _
          have KA : Hid (W1.heap[wr.heap.size]? = some (opBox ((t : Int), (i : Int)))) := by rw [hW1]; exact (heap_alloc wr _).1
          have BW1 := Lib.hid (RA.out.below.trans (B2'.out.mono RA.out.below.size))
          have BQ1 := Lib.hid (BQ.out.trans (B2'.out.mono BQ.out.size))
          have F1 := Lib.hid (RA.out.fam.below B2'.out)
          have G1 := Lib.hid (kept_block RA.out.box B2'.out)
          have hfl : fb < wr.heap.size := (Array.getElem?_eq_some_iff.1 RA.out.box).1
          have hbx : wr.heap.size < W1.heap.size := (Array.getElem?_eq_some_iff.1 KA.out).1
          rw [← hW1]
          clear hW1 z0 z1
          have TA0 := Lib.hid RA.out.apart
          generalize hbxe : wr.heap.size = bx at *
          clear hbxe
          have RF := Lib.hid (res_fit RA.out.val RA.out.ok (by omega) t i o)
          have RV := Lib.hid (show (applyA A0 ((t : Int), (i : Int)).1 ((t : Int), (i : Int)).2 (opAt ts ((t : Int), (i : Int)))) = applyA A0 t i o by rw [HPP.out])
          have ND1 := Lib.hid (RA.out.nd.apply t i o)
          have OK1 := Lib.hid (RA.out.ok.apply t i o)
          have IT1 := Lib.hid (iters_apply A0 t i o)
          have VA1 := Lib.hid (RA.out.val.apply t i o HV.out)
          have APC := Lib.hid (fun (W : World) (hW : Below W1.heap.size W1 W) => gapply_any (N := j + 1) (c := cf) (d := df) (F1.out.below hW) RA.out.nd RA.out.ok RA.out.its (by omega) RA.out.dn t i ⟨by omega, by omega⟩ ⟨by omega, by omega⟩ o HK.out)
          obtain ⟨ok, oh, okey, ov, oe⟩ := o
          simp only at OC
          have KX : Hid (∀ W, Below W1.heap.size W1 W → (W.cell? ⟨bx, 0, none⟩ = some (.int .i64 t) ∧ W.cell? ⟨bx, 1, none⟩ = some (.int .i64 i)) ∧ (W.cell? ⟨fb, 0, none⟩ = some (.int .u64 (refOf A0).mask) ∧ W.cell? ⟨fb, 1, none⟩ = some (.slice Ar' (refOf A0).maps.length cf) ∧ W.cell? ⟨fb, 2, none⟩ = some (.slice Dr (refOf A0).walks.length df)) ∧ W.cell? ⟨ba, offa + t, none⟩ = some (.slice (some ⟨bo, offo, none⟩) tt.length cu) ∧ (W.cell? ⟨bo, offo + i * 5, none⟩ = some (.int .i64 ok) ∧ W.cell? ⟨bo, offo + i * 5 + 1, none⟩ = some (.int .i64 oh) ∧ W.cell? ⟨bo, offo + i * 5 + 2, none⟩ = some (.string okey) ∧ W.cell? ⟨bo, offo + i * 5 + 3, none⟩ = some (.int .u64 ov) ∧ W.cell? ⟨bo, offo + i * 5 + 4, none⟩ = some (.int .u64 oe))) := fun W hW => by
            have hh := BQ1.out.trans (hW.mono BQ1.out.size)
            exact ⟨opBox_cells (opBox_kept KA.out hW), fam_cells (kept_block G1.out hW), (hh.cell (p := ⟨ba, _, none⟩) hba).trans K1.out, ops_cells (o := ⟨ok, oh, okey, ov, oe⟩) OC.out W hbo hh⟩
          simp only [rfamV, OpD.val] at APC
          generalize hap : applyA A0 (t : Int) (i : Int) ⟨ok, oh, okey, ov, oe⟩ = ap at *
          obtain ⟨A1, r⟩ := ap
          have HAP := Lib.hid hap
          clear hap
          obtain ⟨re, rf, rv, rk, rc⟩ := r
          have TA : Hid (∀ b, T b → b ≠ fb ∧ b < W1.heap.size) := fun b hb => by have := TA0.out b hb; exact ⟨this.1, by omega⟩
          have hfW : fb < W1.heap.size := by omega
          have BD : Hid (Below W1.heap.size W1 W1.drew) := (Below.refl _ _).drew
          have BA : Hid (Below W1.heap.size W1 (W1.alloc (.cells #[.int .u64 0, .slice none 0 0, .slice none 0 0] 72)).drew) := (balZ (Below.refl _ _) _).drew
          have BB : Hid (Below W1.heap.size W1 (W1.alloc (.cells #[.int .i64 0, .bool false, .int .u64 0, .string ⟨#[]⟩, .int .i64 0, .int .i64 0, .int .i64 0, .bool false] 45)).drew) := (balZ (Below.refl _ _) _).drew
          have BAB : Hid (Below W1.heap.size W1 ((W1.alloc (.cells #[.int .u64 0, .slice none 0 0, .slice none 0 0] 72)).alloc (.cells #[.int .i64 0, .bool false, .int .u64 0, .string ⟨#[]⟩, .int .i64 0, .int .i64 0, .int .i64 0, .bool false] 45)).drew) := (balZ (balZ (Below.refl _ _) _) _).drew
          have BBA : Hid (Below W1.heap.size W1 ((W1.alloc (.cells #[.int .i64 0, .bool false, .int .u64 0, .string ⟨#[]⟩, .int .i64 0, .int .i64 0, .int .i64 0, .bool false] 45)).alloc (.cells #[.int .u64 0, .slice none 0 0, .slice none 0 0] 72)).drew) := (balZ (balZ (Below.refl _ _) _) _).drew
          have ZA : Hid ((W1.alloc (.cells #[.int .u64 0, .slice none 0 0, .slice none 0 0] 72)).drew.heap[W1.heap.size]? = some (.cells #[.int .u64 0, .slice none 0 0, .slice none 0 0] 72 (0, 0))) := (heap_alloc W1 _).1
          have ZB : Hid ((W1.alloc (.cells #[.int .i64 0, .bool false, .int .u64 0, .string ⟨#[]⟩, .int .i64 0, .int .i64 0, .int .i64 0, .bool false] 45)).drew.heap[W1.heap.size]? = some (.cells #[.int .i64 0, .bool false, .int .u64 0, .string ⟨#[]⟩, .int .i64 0, .int .i64 0, .int .i64 0, .bool false] 45 (0, 0))) := (heap_alloc W1 _).1
          have ZAB : Hid (((W1.alloc (.cells #[.int .u64 0, .slice none 0 0, .slice none 0 0] 72)).alloc (.cells #[.int .i64 0, .bool false, .int .u64 0, .string ⟨#[]⟩, .int .i64 0, .int .i64 0, .int .i64 0, .bool false] 45)).drew.heap[W1.heap.size]? = some (.cells #[.int .u64 0, .slice none 0 0, .slice none 0 0] 72 (0, 0)) ∧ ((W1.alloc (.cells #[.int .u64 0, .slice none 0 0, .slice none 0 0] 72)).alloc (.cells #[.int .i64 0, .bool false, .int .u64 0, .string ⟨#[]⟩, .int .i64 0, .int .i64 0, .int .i64 0, .bool false] 45)).drew.heap[W1.heap.size + 1]? = some (.cells #[.int .i64 0, .bool false, .int .u64 0, .string ⟨#[]⟩, .int .i64 0, .int .i64 0, .int .i64 0, .bool false] 45 (0, 0))) := ⟨(refu_w W1 _ _).2.1, (refu_w W1 _ _).2.2.1⟩
          have ZBA : Hid (((W1.alloc (.cells #[.int .i64 0, .bool false, .int .u64 0, .string ⟨#[]⟩, .int .i64 0, .int .i64 0, .int .i64 0, .bool false] 45)).alloc (.cells #[.int .u64 0, .slice none 0 0, .slice none 0 0] 72)).drew.heap[W1.heap.size]? = some (.cells #[.int .i64 0, .bool false, .int .u64 0, .string ⟨#[]⟩, .int .i64 0, .int .i64 0, .int .i64 0, .bool false] 45 (0, 0)) ∧ ((W1.alloc (.cells #[.int .i64 0, .bool false, .int .u64 0, .string ⟨#[]⟩, .int .i64 0, .int .i64 0, .int .i64 0, .bool false] 45)).alloc (.cells #[.int .u64 0, .slice none 0 0, .slice none 0 0] 72)).drew.heap[W1.heap.size + 1]? = some (.cells #[.int .u64 0, .slice none 0 0, .slice none 0 0] 72 (0, 0))) := ⟨(refu_w W1 _ _).2.1, (refu_w W1 _ _).2.2.1⟩
          go_cut [15, 16] from 62 to 79 (fun v15 v16 wx => GMid W1 fb A1 ⟨re, rf, rv, rk, rc⟩ v15 v16 wx)
          case first =>
            go_region_held3 (fun W => (W.cell? ⟨bx, 0, none⟩ = some (.int .i64 t) ∧ W.cell? ⟨bx, 1, none⟩ = some (.int .i64 i)) ∧ (W.cell? ⟨fb, 0, none⟩ = some (.int .u64 (refOf A0).mask) ∧ W.cell? ⟨fb, 1, none⟩ = some (.slice Ar' (refOf A0).maps.length cf) ∧ W.cell? ⟨fb, 2, none⟩ = some (.slice Dr (refOf A0).walks.length df)) ∧ W.cell? ⟨ba, offa + t, none⟩ = some (.slice (some ⟨bo, offo, none⟩) tt.length cu) ∧ (W.cell? ⟨bo, offo + i * 5, none⟩ = some (.int .i64 ok) ∧ W.cell? ⟨bo, offo + i * 5 + 1, none⟩ = some (.int .i64 oh) ∧ W.cell? ⟨bo, offo + i * 5 + 2, none⟩ = some (.string okey) ∧ W.cell? ⟨bo, offo + i * 5 + 3, none⟩ = some (.int .u64 ov) ∧ W.cell? ⟨bo, offo + i * 5 + 4, none⟩ = some (.int .u64 oe))) ((refine KX.out _ ?_; repeat' (first | (with_reducible exact BD.out) | (with_reducible exact X2.out) | (with_reducible refine Below.drew ?_) | (with_reducible refine balZ ?_ _) | (with_reducible refine below_set ?_ (by omega)) | (with_reducible exact Below.refl _ _)))) (first
              | ((go_at_call 29; (with_reducible refine (APC.out _ BD.out).mono ?_); rintro e w8 ⟨A', c', D', d', rfl, hf8, hb8, hd8⟩; (have X2 := Lib.hid (BD.out.trans (hb8.mono BD.out.size))); (have F8 := Lib.hid hf8); (have D8 := Lib.hid hd8); simp only [rfamV, ResD.cells]; clear hf8 hb8 hd8))
              | ((go_at_call 29; (with_reducible refine (APC.out _ BA.out).mono ?_); rintro e w8 ⟨A', c', D', d', rfl, hf8, hb8, hd8⟩; (have X2 := Lib.hid (BA.out.trans (hb8.mono BA.out.size))); (have F8 := Lib.hid hf8); (have D8 := Lib.hid hd8); (have P15 := Lib.hid (kept_block ZA.out hb8)); (have L15 := (Array.getElem?_eq_some_iff.1 P15.out).1); (have f0 := fam_cells P15.out); (have f1 := fam_free P15.out); simp only [rfamV, ResD.cells]; clear hf8 hb8 hd8))
              | ((go_at_call 29; (with_reducible refine (APC.out _ BB.out).mono ?_); rintro e w8 ⟨A', c', D', d', rfl, hf8, hb8, hd8⟩; (have X2 := Lib.hid (BB.out.trans (hb8.mono BB.out.size))); (have F8 := Lib.hid hf8); (have D8 := Lib.hid hd8); (have P16 := Lib.hid (kept_block ZB.out hb8)); (have L16 := (Array.getElem?_eq_some_iff.1 P16.out).1); (have g0 := res_cells P16.out); (have g1 := res_free P16.out); simp only [rfamV, ResD.cells]; clear hf8 hb8 hd8))
              | ((go_at_call 29; (with_reducible refine (APC.out _ BAB.out).mono ?_); rintro e w8 ⟨A', c', D', d', rfl, hf8, hb8, hd8⟩; (have X2 := Lib.hid (BAB.out.trans (hb8.mono BAB.out.size))); (have F8 := Lib.hid hf8); (have D8 := Lib.hid hd8); (have P15 := Lib.hid (kept_block ZAB.out.1 hb8)); (have L15 := (Array.getElem?_eq_some_iff.1 P15.out).1); (have f0 := fam_cells P15.out); (have f1 := fam_free P15.out); (have P16 := Lib.hid (kept_block ZAB.out.2 hb8)); (have L16 := (Array.getElem?_eq_some_iff.1 P16.out).1); (have g0 := res_cells P16.out); (have g1 := res_free P16.out); simp only [rfamV, ResD.cells]; clear hf8 hb8 hd8))
              | ((go_at_call 29; (with_reducible refine (APC.out _ BBA.out).mono ?_); rintro e w8 ⟨A', c', D', d', rfl, hf8, hb8, hd8⟩; (have X2 := Lib.hid (BBA.out.trans (hb8.mono BBA.out.size))); (have F8 := Lib.hid hf8); (have D8 := Lib.hid hd8); (have P15 := Lib.hid (kept_block ZBA.out.2 hb8)); (have L15 := (Array.getElem?_eq_some_iff.1 P15.out).1); (have f0 := fam_cells P15.out); (have f1 := fam_free P15.out); (have P16 := Lib.hid (kept_block ZBA.out.1 hb8)); (have L16 := (Array.getElem?_eq_some_iff.1 P16.out).1); (have g0 := res_cells P16.out); (have g1 := res_free P16.out); simp only [rfamV, ResD.cells]; clear hf8 hb8 hd8)))
            all_goals (go_wp2_with fail; go_meet)
            · have z8 := X2.out.size
              refine gmid_of F8.out TA.out hfW D8.out BD.out X2.out ((alloc_old _ _ _ (by simp)).trans (heap_alloc w8 _).1) (newfam_block w8 _ _) (((Only.refl _ _).alloc _).alloc _) ⟨z8, Or.inr (Nat.le_refl _)⟩ ⟨by omega, Or.inr (by omega)⟩
            · have z8 := X2.out.size
              refine gmid_of F8.out TA.out hfW D8.out BD.out X2.out (newfam_block w8 _ _) ((alloc_old _ _ _ (by simp)).trans (heap_alloc w8 _).1) (((Only.refl _ _).alloc _).alloc _) ⟨by omega, Or.inr (by omega)⟩ ⟨z8, Or.inr (Nat.le_refl _)⟩
            · have z8 := X2.out.size
              refine gmid_of F8.out TA.out hfW D8.out BA.out X2.out ((alloc_old _ _ _ (by rw [(set3_turned _ _ _ _ _).size]; exact L15)).trans (set3_here P15.out _ _ _)) ?_ ((turned_only (Only.refl _ _) (set3_turned _ _ _ _ _) (Or.inl (Or.inl rfl))).alloc _) ⟨Nat.le_refl _, Or.inl (by simp)⟩ ⟨z8, Or.inr (Nat.le_refl _)⟩
              have h := (heap_alloc (((w8.setCell ⟨W1.heap.size, 0, none⟩ (.int .u64 (refOf A1).mask)).setCell ⟨W1.heap.size, 1, none⟩ (.slice A' (refOf A1).maps.length c')).setCell ⟨W1.heap.size, 2, none⟩ (.slice D' (refOf A1).walks.length d')) (.cells #[.int .i64 re, .bool rf, .int .u64 rv, .string rk, .int .i64 rc, .int .i64 0, .int .i64 0, .bool false] 45)).1
              rw [(set3_turned _ _ _ _ _).size] at h
              exact h
            · have z8 := X2.out.size
              refine gmid_of F8.out TA.out hfW D8.out BAB.out X2.out (((set8_turned _ _ _ _ _ _ _ _ _ _).block _ (by omega)).trans (set3_here P15.out _ _ _)) (set8_here (((set3_turned _ _ _ _ _).block _ (by omega)).trans P16.out) _ _ _ _ _ _ _ _) (turned_only (turned_only (Only.refl _ _) (set3_turned _ _ _ _ _) (Or.inl (Or.inl rfl))) (set8_turned _ _ _ _ _ _ _ _ _ _) (Or.inl (Or.inr rfl))) ⟨Nat.le_refl _, Or.inl (by simp; omega)⟩ ⟨by omega, Or.inl (by simp)⟩
            · have z8 := X2.out.size
              refine gmid_of (c' := c') (d' := d') F8.out TA.out hfW D8.out BB.out X2.out ?_ ((alloc_old _ _ _ (by rw [(set8_turned _ _ _ _ _ _ _ _ _ _).size]; exact L16)).trans (set8_here P16.out _ _ _ _ _ _ _ _)) ((turned_only (Only.refl _ _) (set8_turned _ _ _ _ _ _ _ _ _ _) (Or.inl (Or.inr rfl))).alloc _) ⟨z8, Or.inr (Nat.le_refl _)⟩ ⟨Nat.le_refl _, Or.inl (by simp)⟩
              have h := (heap_alloc ((((((((w8.setCell ⟨W1.heap.size, 0, none⟩ (.int .i64 re)).setCell ⟨W1.heap.size, 1, none⟩ (.bool rf)).setCell ⟨W1.heap.size, 2, none⟩ (.int .u64 rv)).setCell ⟨W1.heap.size, 3, none⟩ (.string rk)).setCell ⟨W1.heap.size, 4, none⟩ (.int .i64 rc)).setCell ⟨W1.heap.size, 5, none⟩ (.int .i64 0)).setCell ⟨W1.heap.size, 6, none⟩ (.int .i64 0)).setCell ⟨W1.heap.size, 7, none⟩ (.bool false)) (.cells #[.int .u64 (refOf A1).mask, .slice A' (refOf A1).maps.length c', .slice D' (refOf A1).walks.length d'] 72)).1
              rw [(set8_turned _ _ _ _ _ _ _ _ _ _).size] at h
              exact h
            · have z8 := X2.out.size
              refine gmid_of F8.out TA.out hfW D8.out BBA.out X2.out (((set8_turned _ _ _ _ _ _ _ _ _ _).block _ (by omega)).trans (set3_here P15.out _ _ _)) (set8_here (((set3_turned _ _ _ _ _).block _ (by omega)).trans P16.out) _ _ _ _ _ _ _ _) (turned_only (turned_only (Only.refl _ _) (set3_turned _ _ _ _ _) (Or.inl (Or.inl rfl))) (set8_turned _ _ _ _ _ _ _ _ _ _) (Or.inl (Or.inr rfl))) ⟨by omega, Or.inl (by simp)⟩ ⟨Nat.le_refl _, Or.inl (by simp; omega)⟩
          case rest =>
            obtain ⟨q, p, T', A', D', c', d', rfl, rfl, hq, hp, hf2, hT2, hd2, hqf, hb2⟩ := hcut
            have Q2 := Lib.hid hq
            have P2 := Lib.hid hp
            have F2 := Lib.hid hf2
            have T2 := Lib.hid hT2
            have D2 := Lib.hid hd2
            have KA2 := Lib.hid (kept_block KA.out hb2)
            have G2 := Lib.hid (kept_block G1.out hb2)
            have BW2 := Lib.hid (BW1.out.trans (hb2.mono BW1.out.size))
            have BQ2 := Lib.hid (BQ1.out.trans (hb2.mono BQ1.out.size))
            clear hq hp hf2 hT2 hd2 hb2 BD BA BB BAB BBA ZA ZB ZAB ZBA APC KX
            obtain ⟨y0, y1⟩ := opBox_cells KA2.out
            simp only at y0 y1
            have TN : Hid (∀ W, Below wc.heap.size wc W → Below w6.heap.size w6 W) := fun W hW => BW2.out.trans (hW.mono BW2.out.size)
            have FIN : Hid (∀ W, Below wc.heap.size wc W → playP ts l A0 (order.drop j) = playP ts l A1 (order.drop (j + 1)) → RaRel w6 fb ts l order mask (.int .i64 ((j : Int) + 1)) (((W.setCell ⟨fb, 0, none⟩ (.int .u64 (refOf A1).mask)).setCell ⟨fb, 1, none⟩ (.slice A' (refOf A1).maps.length c')).setCell ⟨fb, 2, none⟩ (.slice D' (refOf A1).walks.length d'))) := fun W hW hp => by
              have ht := set3_turned W fb (.int .u64 (refOf A1).mask) (.slice A' (refOf A1).maps.length c') (.slice D' (refOf A1).walks.length d')
              refine ⟨j + 1, A1, T', A', D', c', d', by omega, by go_num, ⟨F2.out.keep ⟨?_, fun b hb hlt => ?_⟩, set3_here (kept_block G2.out hW) _ _ _, ND1.out, OK1.out, ?_, VA1.out, fun b hb => ?_, D2.out, ?_⟩, PL.out.trans hp⟩
              · rw [ht.size]; exact hW.size
              · exact (ht.block b (T2.out b hb).1).trans (hW.block b hlt)
              · have h1 := IT1.out
                have h2 := RA.out.its
                simp only at h1
                omega
              · have h1 := T2.out b hb
                have h2 := hW.size
                exact ⟨h1.1, by rw [ht.size]; omega⟩
              · exact RecB.turned_below (TN.out W hW) ht (by omega)
            cases hr : resultP l ((t : Int), (i : Int)) with
            | none =>
              have PN := Lib.hid (show playP ts l A0 (order.drop j) = playP ts l A1 (order.drop (j + 1)) by rw [playP_none HX.out hr, RV.out])
              have HR := Lib.hid hr
              clear hr
              go_wp2_with (first | (go_at_call 30; refine stopAt ?_))
              unfold StopAt
              refine (rresult_none wc B d l hl (HB.out.below BQ2.out) t i HR.out).mono ?_
              rintro e w9 ⟨rfl, hb9⟩
              obtain ⟨W5, hW5⟩ : ∃ W5, W5 = w9.alloc (.cells #[.int .i64 0, .bool false, .int .u64 0, .string ⟨#[]⟩, .int .i64 0, .int .i64 0, .int .i64 0, .bool false] 45) := ⟨_, rfl⟩
              have B5' : Hid (Below wc.heap.size wc W5) := by rw [hW5]; exact hb9.alloc hb9.size _
              have Q5 := Lib.hid (kept_block Q2.out B5'.out)
              have G5 := Lib.hid (kept_block G2.out B5'.out)
              have NY := Lib.hid (FIN.out W5 B5'.out PN.out)
              clear hb9 y0 y1
              go_upto_region 22 with fail
              rw [← hW5]
              clear hW5
              obtain ⟨x0, x1, x2⟩ := fam_cells Q5.out
              obtain ⟨g0, g1, g2⟩ := fam_cells G5.out
              have gf := fam_free G5.out
              go_wp2_with fail
              go_roundw
              case rel => exact NY.out
              case measure => simp [intOf]; omega
            | some want =>
              have WF := Lib.hid (result_fit FE.out hr)
              have HR := Lib.hid hr
              clear hr
              go_wp2_with (first | (go_at_call 30; refine stopAt ?_))
              unfold StopAt
              refine (rresult_some wc B d l hl (HB.out.below BQ2.out) t i want HR.out).mono ?_
              rintro e w9 ⟨rfl, hb9⟩
              obtain ⟨W5, hW5⟩ : ∃ W5, W5 = w9.alloc (.cells #[.int .i64 want.err, .bool want.found, .int .u64 want.value, .string want.key, .int .i64 want.count, .int .i64 want.ref, .int .i64 want.root, .bool want.ro] 45) := ⟨_, rfl⟩
              have B5' : Hid (Below wc.heap.size wc W5) := by rw [hW5]; exact hb9.alloc hb9.size _
              have KW : Hid (W5.heap[w9.heap.size]? = some (.cells #[.int .i64 want.err, .bool want.found, .int .u64 want.value, .string want.key, .int .i64 want.count, .int .i64 want.ref, .int .i64 want.root, .bool want.ro] 45 (0, 0))) := by rw [hW5]; exact (heap_alloc w9 _).1
              have Q5 := Lib.hid (kept_block Q2.out B5'.out)
              have P5 := Lib.hid (kept_block P2.out B5'.out)
              have G5 := Lib.hid (kept_block G2.out B5'.out)
              have BZ := Lib.hid (BQ2.out.trans (B5'.out.mono BQ2.out.size))
              clear hb9 y0 y1
              go_upto_region 22 with fail
              rw [← hW5]
              clear hW5
              generalize w9.heap.size = sb at *
              simp only [ResD.cells] at P5
              obtain ⟨v0, v1, v2, v3, v4, v5, v6, v7⟩ := res_cells P5.out
              obtain ⟨z0, z1, z2, z3, z4, z5, z6, z7⟩ := res_cells KW.out
              by_cases heq : (⟨re, rf, rv, rk, rc, 0, 0, false⟩ : ResF) = want
              · have NY := Lib.hid (FIN.out W5 B5'.out ((playP_good HX.out HR.out (by rw [RV.out]; exact heq)).trans (by rw [RV.out])))
                subst heq
                simp only at z0 z1 z2 z3 z4 z5 z6 z7
                obtain ⟨x0, x1, x2⟩ := fam_cells Q5.out
                obtain ⟨g0, g1, g2⟩ := fam_cells G5.out
                have gf := fam_free G5.out
                go_wp2_with fail
                go_roundw
                case rel => exact NY.out
                case measure => simp [intOf]; omega
              · have R := Lib.hid (acc_play HC.out HE.out HM.out HD.out (PL.out.trans (playP_bad HX.out HR.out (by rw [RV.out]; exact heq))))
                obtain ⟨e, f, v, k, c, r, x, y⟩ := want
                simp only at z0 z1 z2 z3 z4 z5 z6 z7
                have HN := Lib.hid (show ¬ (⟨e, f, v, k, c, r, x, y⟩ : ResF) = ⟨re, rf, rv, rk, rc, 0, 0, false⟩ from fun h => heq h.symm)
                clear heq
                go_wp2_with fail
                all_goals first
                  | (go_ret; exact ⟨ret_int R.out.symm, BZ.out⟩)
                  | (exfalso; exact HN.out (res_eq_of' (by assumption) (by assumption) (by assumption) (by assumption) (by assumption) (by assumption) (by assumption) (by assumption)))

        · have hje : j = order.length := by omega
          have BT := Lib.hid (B6.out.trans (RA.out.below.mono B6.out.size))
          have R := Lib.hid (acc_ok HC.out HE.out HM.out HD.out (by rw [PL.out, hje, List.drop_length]; rfl))
          clear hje
          go_wp2_with fail
          go_ret
          exact ⟨ret_int R.out.symm, BT.out⟩
end Go.Proofs.YtbmoehndnbbhcaaGreatDoor
