/- The walk of appendOp. -/
import Derived.Test.YtnoeiaicligmiaaDoorSBuf
import Derived.Test.YtnoeiaicligmiaaDoorSRound
import Derived.StillTailTactics
import Derived.Deep.RegionLaw
namespace Go.Proofs.YtnoeiaicligmiaaDoor
set_option linter.unusedVariables false
set_option linter.unusedSimpArgs false
open Go Go.RowKit
def opV (o : OpD) : Value := .agg #[.int .i64 o.kind, .int .i64 o.handle, .string o.key, .int .u64 o.value, .int .u64 o.expect]
def opObj (o : OpD) : Obj := .cells #[.int .i64 o.kind, .int .i64 o.handle, .string o.key, .int .u64 o.value, .int .u64 o.expect] 39
theorem Buf.restart {B : Nat} {w0 w : World} {v : Value} {l : List UInt8} (h : Buf B w0 w v l) : Buf B w w v l := ⟨h.own, Below.refl _ _, Lib.OthersKept.refl _ _ _, h.size⟩
theorem Buf.join {B : Nat} {w0 w1 w : World} {v v1 : Value} {l l1 : List UInt8} (h1 : Buf B w0 w1 v1 l1) (h : Buf B w1 w v l) : Buf B w0 w v l := ⟨h.own, h1.below.trans h.below, h1.kept.trans h.kept, h.size⟩
theorem dec_len (k n : Nat) (h : n < 10 ^ (k + 1)) : (Lib.decDigits n).length ≤ k + 1 := by
  induction k generalizing n with
  | zero => rw [dec_one n (by omega)]; simp
  | succ k ih =>
    by_cases h10 : n < 10
    · rw [dec_one n h10]; simp
    · rw [dec_more n h10]
      have := ih (n / 10) (by rw [Nat.pow_succ] at h; omega)
      simp; omega
theorem nat_len (v : Int) (h1 : v ≤ 18446744073709551615) : (natT v).length ≤ 20 := dec_len 19 v.toNat (by omega)
theorem itoa_len (i : Int) (h0 : -9223372036854775808 ≤ i) (h1 : i ≤ 9223372036854775807) : (Lib.itoa i).length ≤ 21 := by
  unfold Lib.itoa
  split
  · have := dec_len 19 i.natAbs (by omega)
    simp; omega
  · have := dec_len 19 i.toNat (by omega)
    omega
theorem box_cell {B : Nat} {w1 w : World} {v : Value} {l : List UInt8} (h : Buf B w1 w v l) {c : Nat} {o : OpD} (hb : w1.heap[c]? = some (opObj o)) :
    ∀ j : Nat, w.cell? ⟨c, j, none⟩ = (#[Value.int .i64 o.kind, .int .i64 o.handle, .string o.key, .int .u64 o.value, .int .u64 o.expect])[j]? :=
  fun j => blk_cell (h.block hb (by decide)) j
def digs16 : ByteArray := ⟨#[48, 49, 50, 51, 52, 53, 54, 55, 56, 57, 97, 98, 99, 100, 101, 102]⟩
theorem index_hex (n : Nat) (h : n < 16) (W : World) : (Instr.index 9 (.string ⟨#[48, 49, 50, 51, 52, 53, 54, 55, 56, 57, 97, 98, 99, 100, 101, 102]⟩) (.int .u8 n)).run Tryd.prog W = .ok (.int .u8 ((hexD n).toNat : Nat)) W := by
  rcases (by omega : n = 0 ∨ n = 1 ∨ n = 2 ∨ n = 3 ∨ n = 4 ∨ n = 5 ∨ n = 6 ∨ n = 7 ∨ n = 8 ∨ n = 9 ∨ n = 10 ∨ n = 11 ∨ n = 12 ∨ n = 13 ∨ n = 14 ∨ n = 15) with rfl | rfl | rfl | rfl | rfl | rfl | rfl | rfl | rfl | rfl | rfl | rfl | rfl | rfl | rfl | rfl <;> kernel_rfl
theorem and_15 (n : Nat) (h : n < 256) : bits .and .u8 (n : Int) 15 = (n : Int) % 16 := by
  have : ∀ k : Fin 256, bits .and .u8 ((k.val : Nat) : Int) 15 = ((k.val : Nat) : Int) % 16 := by decide +kernel
  exact this ⟨n, h⟩
theorem step_buf {ops : Array Oper} {o : Oper} {a : Act} {K : Act → World → Prop} {Q : Exit → Act → World → Prop} {E : Prop} (hgd : o.guard = none) (s x : Operand) (ho : o.op = .call { callee := .builtin .append, args := #[s, x], argTypes := #[22, 22] })
    (B : Nat) (w0 W : World) (v : Value) (l : List UInt8) (hb : Buf B w0 W v l) (hs : a.eval s = v) (bs : List UInt8) (ad : Addr) (m : Nat) (hm : bs.length = m)
    (hx : a.eval x = .slice (some ad) m m) (hc : ∀ j u, (Lib.byteCells bs)[j]? = some u → W.cell? (ad.add j) = some u) (hlen : l.length + m ≤ 140737488355328)
    (hK : ∀ v' w', Buf B w0 w' v' (l ++ bs) → K (a.put o.dst v') w') : if Region.wanted o (yielded ops a.tmps) = true then Oper.wp Tryd.prog o a W K Q else E := by
  have hw : Region.wanted o (yielded ops a.tmps) = true := by simp [Region.wanted, hgd]
  rw [if_pos hw]
  subst hm
  obtain ⟨i0, hi, hz0, hz1, hz2⟩ := info_parts byte_info
  refine wp_append_own W s x 22 ho B 5 i0 (.int .u8 0) 1 1 Tryd.underlying22 hi hz0 hz1 hz2 rfl (by decide) v l.length (Lib.byteCells l) hs hb.own ad bs.length bs.length (Lib.byteCells bs) hx (by simp [Lib.byteCells]) hc (bytes_one bs) (by unfold maxLen; omega) (by omega) hb.size ?_
  intro v' w' ho' hg _
  refine hK v' w' (hb.grown (l' := l ++ bs) ?_ hg)
  rw [Lib.byteCells_append, List.length_append]
  exact ho'
theorem two_new (w : World) (a b : UInt8) (T : TypeId) : ∀ j u, (Lib.byteCells [a, b])[j]? = some u → (w.alloc (.cells #[.int .u8 (a.toNat : Nat), .int .u8 (b.toNat : Nat)] T)).drew.cell? ((⟨w.heap.size, 0, none⟩ : Addr).add j) = some u := by
  intro j u h
  exact cells_new w [a, b] T j u h
theorem hex_len (k : List UInt8) : (k.flatMap (fun b => [hexD (b.toNat / 16), hexD (b.toNat % 16)])).length = 2 * k.length := by
  induction k with
  | nil => rfl
  | cons b r ih => rw [List.flatMap_cons, List.length_append, ih]; simp; omega
theorem take_hex (k : List UInt8) (j : Nat) (h : j < k.length) : (k.take (j + 1)).flatMap (fun b => [hexD (b.toNat / 16), hexD (b.toNat % 16)]) = (k.take j).flatMap (fun b => [hexD (b.toNat / 16), hexD (b.toNat % 16)]) ++ [hexD (k[j].toNat / 16), hexD (k[j].toNat % 16)] := by
  rw [List.take_succ_eq_append_getElem h, List.flatMap_append]
  simp
def HexRel (B : Nat) (w1 : World) (l : List UInt8) (k : List UInt8) (v i : Value) (wr : World) : Prop :=
  ∃ j : Nat, j ≤ k.length ∧ i = .int .i64 j ∧ Buf B w1 wr v (l ++ (k.take j).flatMap (fun b => [hexD (b.toNat / 16), hexD (b.toNat % 16)]))
set_option maxRecDepth 100000 in
set_option maxHeartbeats 2000000 in
theorem appendOp_any (B : Nat) (w0 w : World) (v : Value) (l : List UInt8) (o : OpD) (h : Buf B w0 w v l) (tb : TabB B w0) (ho : OpOk o) (hk : o.key.size ≤ 1048576) (hl : l.length ≤ 8388608) :
    Calls Tryd.prog 34 #[v, opV o] w fun e w' => ∃ v', e = .returned v' ∧ Buf B w0 w' v' (l ++ lineT o) := by
  obtain ⟨kind, handle, key, value, expect⟩ := o
  have k0 := ho.k0
  have k1 := ho.k1
  have h0 := ho.h0
  have h1 := ho.h1
  have v0 := ho.v0
  have v1 := ho.v1
  have e0 := ho.e0
  have e1 := ho.e1
  simp only [opV] at *
  clear ho
  have H1 := Lib.hid (h.alloc (opObj ⟨kind, handle, key, value, expect⟩))
  have TB := Lib.hid (tb.on H1.out.below)
  have bx := (MapKept.heap_alloc w (opObj ⟨kind, handle, key, value, expect⟩)).1
  have BX := Lib.hid bx
  have R1 := Lib.hid H1.out.restart
  clear h tb bx
  go_enter Tryd.func34, Tryd.ntmps34
  go_wp2_with fail
  have li := itoa_len kind k0 k1
  have lh := itoa_len handle h0 h1
  refine (buf_int B _ _ v l R1.out TB.out kind k0 k1 (by omega)).mono ?_
  rintro e w2 ⟨v2, rfl, hb2⟩
  have x2 := box_cell hb2 BX.out
  have H2 := Lib.hid hb2
  clear hb2 R1
  simp only at x2
  go_wp2_with (at_builtin; (refine wpList_buf_new rfl _ _ rfl B _ _ _ _ H2.out rfl [32] _ rfl 1 rfl rfl ?hl ?_); (case hl => (simp only [List.length_append, List.length_cons, List.length_nil]; omega)); intro v3 w3 hb3; (have x3 := box_cell hb3 BX.out); (have H3 := Lib.hid hb3); clear hb3 x2 H2; simp only at x3)
  refine (buf_int B _ _ v3 _ H3.out TB.out handle h0 h1 (by simp only [List.length_append, List.length_cons, List.length_nil]; omega)).mono ?_
  rintro e w4 ⟨v4, rfl, hb4⟩
  clear x3 H3
  have x4 := box_cell hb4 BX.out
  have H4 := Lib.hid hb4
  clear hb4
  simp only at x4
  go_wp2_with (at_builtin; (refine wpList_buf_new rfl _ _ rfl B _ _ _ _ H4.out rfl [32, 120] _ rfl 2 rfl rfl ?hl ?_); (case hl => (simp only [List.length_append, List.length_cons, List.length_nil]; omega)); intro v5 w5 hb5; (have x5 := box_cell hb5 BX.out); (have H5 := Lib.hid hb5); clear hb5 x4 H4; simp only at x5)
  obtain ⟨l5, e5, hl5⟩ : ∃ l5, l5 = l ++ Lib.itoa kind ++ [32] ++ Lib.itoa handle ++ [32, 120] ∧ l5.length ≤ 8388700 := ⟨_, rfl, by simp only [List.length_append, List.length_cons, List.length_nil]; omega⟩
  have h5 := H5.out
  rw [← e5] at h5
  have E5 := Lib.hid e5
  have H5b := Lib.hid h5
  have hks : key.size = key.data.toList.length := Lib.size_eq key
  have KS := Lib.hid hks
  clear h5 e5 H5 x5 hks
  go_loopw [0, 23] (fun v i wr => HexRel B (w.alloc (opObj ⟨kind, handle, key, value, expect⟩)) l5 key.data.toList v i wr) (fun _ i _ => key.size - (intOf i).toNat)
  case atStart => exact ⟨0, by omega, rfl, by simpa using H5b.out⟩
  case round =>
    obtain ⟨j, hj, rfl, hbr⟩ := hrel
    have xr := box_cell hbr BX.out
    have HR := Lib.hid hbr
    clear hbr H5b
    simp only at xr
    by_cases hlt : j < key.size
    · have hj0 : (0 : Int) ≤ j := by omega
      have hj1 : (j : Int) < key.size := by omega
      go_upto_region 8 with (fail)
      have hb := UInt8.toNat_lt key[j]
      have i1 := index_hex (key[j].toNat / 16) (by omega)
      have i2 := index_hex (key[j].toNat % 16) (by omega)
      have q0 : (0 : Int) ≤ (key[j].toNat : Int) / 16 := by omega
      have q1 : (key[j].toNat : Int) / 16 < 16 := by omega
      simp only [Int.natCast_ediv, Int.natCast_emod, Int.cast_ofNat_Int] at i1 i2
      have a1 := and_15 key[j].toNat hb
      have lb : (l5 ++ (key.data.toList.take j).flatMap (fun b => [hexD (b.toNat / 16), hexD (b.toNat % 16)])).length + 2 ≤ 140737488355328 := by
        rw [List.length_append, hex_len]
        have h1 : (key.data.toList.take j).length ≤ key.data.toList.length := by rw [List.length_take]; omega
        have h2 := KS.out
        omega
      generalize hx1 : hexD (key[j].toNat / 16) = d1 at *
      generalize hx2 : hexD (key[j].toNat % 16) = d2 at *
      have D1 := Lib.hid hx1
      have D2 := Lib.hid hx2
      clear hx1 hx2
      go_region_law ((refine step_buf rfl _ _ rfl B _ _ _ _ (HR.out.alloc _).drew rfl [d1, d2] ⟨wr.heap.size, 0, none⟩ 2 rfl rfl (two_new wr d1 d2 _) lb ?_); intro v6 w6 hb6; (have H6 := Lib.hid hb6); clear hb6)
      all_goals
        go_wp2_with fail
        go_roundw
        case rel =>
          refine ⟨j + 1, by rw [← KS.out]; omega, by go_num, ?_⟩
          have e := take_hex key.data.toList j (by rw [← KS.out]; exact hlt)
          have e2 : key.data.toList[j]'(by rw [← KS.out]; exact hlt) = key[j] := rfl
          rw [e, e2, D1.out, D2.out, ← List.append_assoc]
          exact H6.out
        case measure => simp [intOf]; omega
    · have hje : j = key.data.toList.length := by rw [← KS.out] at hj ⊢; omega
      obtain ⟨l6, e6, hl6⟩ : ∃ l6, l6 = l5 ++ (key.data.toList.take j).flatMap (fun b => [hexD (b.toNat / 16), hexD (b.toNat % 16)]) ∧ l6.length ≤ 16777216 := ⟨_, rfl, by
        rw [List.length_append, hex_len]
        have h1 : (key.data.toList.take j).length ≤ key.data.toList.length := by rw [List.length_take]; omega
        have h2 := KS.out
        omega⟩
      have h6 := HR.out
      rw [← e6] at h6
      have H6 := Lib.hid h6
      have EQ : Hid (l ++ lineT ⟨kind, handle, key, value, expect⟩ = l6 ++ [32] ++ natT value ++ [32] ++ natT expect ++ [10]) := by
        show _ = _
        rw [e6, E5.out, hje, List.take_length]
        simp [lineT, keyT]
      have nv := nat_len value v1
      have ne := nat_len expect e1
      clear h6 e6 HR E5 xr hje
      have x6 := box_cell H6.out BX.out
      simp only at x6
      go_wp2_with (at_builtin; (refine wpList_buf_new rfl _ _ rfl B _ _ _ _ H6.out rfl [32] _ rfl 1 rfl rfl ?hl ?_); (case hl => omega); intro v7 w7 hb7; (have x7 := box_cell hb7 BX.out); (have H7 := Lib.hid hb7); clear hb7 x6 H6; simp only at x7)
      refine (buf_uint B _ _ v7 _ H7.out TB.out value v0 v1 (by simp only [List.length_append, List.length_cons, List.length_nil]; omega)).mono ?_
      rintro e w8 ⟨v8, rfl, hb8⟩
      clear x7 H7
      have x8 := box_cell hb8 BX.out
      have H8 := Lib.hid hb8
      clear hb8
      simp only at x8
      go_wp2_with (at_builtin; (refine wpList_buf_new rfl _ _ rfl B _ _ _ _ H8.out rfl [32] _ rfl 1 rfl rfl ?hl ?_); (case hl => (simp only [List.length_append, List.length_cons, List.length_nil]; omega)); intro v9 w9 hb9; (have x9 := box_cell hb9 BX.out); (have H9 := Lib.hid hb9); clear hb9 x8 H8; simp only at x9)
      refine (buf_uint B _ _ v9 _ H9.out TB.out expect e0 e1 (by simp only [List.length_append, List.length_cons, List.length_nil]; omega)).mono ?_
      rintro e w10 ⟨v10, rfl, hb10⟩
      clear x9 H9
      have H10 := Lib.hid hb10
      clear hb10
      go_wp2_with (at_builtin; (refine wpList_buf_new rfl _ _ rfl B _ _ _ _ H10.out rfl [10] _ rfl 1 rfl rfl ?hl ?_); (case hl => (simp only [List.length_append, List.length_cons, List.length_nil]; omega)); intro v11 w11 hb11; (have H11 := Lib.hid hb11); clear hb11 H10)
      go_ret
      refine ⟨v11, rfl, ?_⟩
      rw [EQ.out]
      exact H1.out.join H11.out
end Go.Proofs.YtnoeiaicligmiaaDoor
