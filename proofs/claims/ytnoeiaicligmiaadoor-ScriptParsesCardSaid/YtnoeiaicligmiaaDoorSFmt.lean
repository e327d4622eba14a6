/- The walk of Format. -/
import Derived.Test.YtnoeiaicligmiaaDoorSFull
namespace Go.Proofs.YtnoeiaicligmiaaDoor
set_option linter.unusedVariables false
set_option linter.unusedSimpArgs false
open Go Go.RowKit
def ThrRel (B : Nat) (w1 : World) (pre : List UInt8) (ts : List (List OpD)) (v i : Value) (wr : World) : Prop :=
  ∃ k : Nat, k ≤ ts.length ∧ i = .int .i64 k ∧ Buf B w1 wr v (pre ++ (ts.take k).flatMap threadT) ∧ (pre ++ (ts.take k).flatMap threadT).length ≤ 1048600 + 7 * k
def LineRel (B : Nat) (w1 : World) (l : List UInt8) (t : List OpD) (M : Nat) (v i : Value) (wr : World) : Prop :=
  ∃ j : Nat, j ≤ t.length ∧ i = .int .i64 j ∧ Buf B w1 wr v (l ++ (t.take j).flatMap lineT) ∧ (l ++ (t.take j).flatMap lineT).length ≤ M
def PickRel (B : Nat) (w1 : World) (l : List UInt8) (ps : List Int) (v i : Value) (wr : World) : Prop :=
  ∃ j : Nat, j ≤ ps.length ∧ i = .int .i64 j ∧ Buf B w1 wr v (l ++ (ps.take j).flatMap (fun p => 32 :: Lib.itoa p)) ∧ (l ++ (ps.take j).flatMap (fun p => 32 :: Lib.itoa p)).length ≤ 1048700
theorem scr_box {w w1 : World} {B : Nat} {m : Int} {A D : Option Addr} {n c p d : Nat} {T : TypeId} (hb : Below B (w.alloc (.cells #[.int .u64 m, .slice A n c, .slice D p d] T)) w1) (hB : w.heap.size < B) :
    ∀ j : Nat, w1.cell? ⟨w.heap.size, j, none⟩ = (#[Value.int .u64 m, .slice A n c, .slice D p d])[j]? := fun j =>
  blk_cell ((hb.block w.heap.size hB).trans (MapKept.heap_alloc w _).1) j
theorem thr_cell3 {w : World} {A : Option Addr} {ts : List (List OpD)} (h : ThrAt w A ts) {i : Nat} {t : List OpD} (hi : ts[i]? = some t) :
    ∃ b off u c, A = some ⟨b, off, none⟩ ∧ b < w.heap.size ∧ w.cell? ⟨b, off + i, none⟩ = some (.slice u t.length c) ∧ OpsAt w u t := by
  obtain ⟨b, off, hA, hlt, hc⟩ := h (by have := (List.getElem?_eq_some_iff.1 hi).1; omega)
  obtain ⟨u, c, c0, c1⟩ := hc i t hi
  exact ⟨b, off, u, c, hA, hlt, c0, c1⟩
theorem pick_cell {w : World} {A : Option Addr} {ps : List Int} (h : PicksAt w A ps) {i : Nat} {p : Int} (hi : ps[i]? = some p) :
    ∃ b off, A = some ⟨b, off, none⟩ ∧ w.cell? ⟨b, off + i, none⟩ = some (.int .i64 p) := by
  obtain ⟨b, off, hA, hlt, hc⟩ := h (by have := (List.getElem?_eq_some_iff.1 hi).1; omega)
  exact ⟨b, off, hA, hc i p hi⟩
theorem line_len (o : OpD) (h : OpOk o) : (lineT o).length ≤ 2 * o.key.size + 100 := by
  have h1 := itoa_len o.kind h.k0 h.k1
  have h2 := itoa_len o.handle h.h0 h.h1
  have h3 := nat_len o.value h.v1
  have h4 := nat_len o.expect h.e1
  rw [Lib.size_eq]
  simp only [lineT, keyT, List.length_append, List.length_cons, List.length_nil, hex_len]
  omega
def pairE (l : List UInt8) (e : Int) : Ending := .returned (.tuple #[.string ⟨l.toArray⟩, .int .i64 e])
theorem fmt_end {s : ScrD} {l : List UInt8} {e : Int} (h : formatS s = (l, e)) : Ending.returned (.tuple #[.string ⟨l.toArray⟩, .int .i64 e]) = .returned (.tuple #[.string ⟨(formatS s).1.toArray⟩, .int .i64 (formatS s).2]) := by rw [h]
set_option maxRecDepth 100000 in
set_option maxHeartbeats 4000000 in
theorem format_bads (w : World) (A D : Option Addr) (c d : Nat) (s : ScrD) (h : ScrAt w A D s) (hc : checkS s = 3) :
    Calls Tryd.prog 16 #[scrV s.mask A s.threads.length c D s.picks.length d] w fun e w' => e = .returned (.tuple #[.string ⟨(formatS s).1.toArray⟩, .int .i64 (formatS s).2]) ∧ Below w.heap.size w w' := by
  have F0 := Lib.hid (format_bad s (by omega))
  have CH := Lib.hid (check_any (w.alloc (.cells #[.int .u64 s.mask, .slice A s.threads.length c, .slice D s.picks.length d] 32)) A D c d s (h.below ((Below.refl _ _).alloc (Nat.le_refl _) _)))
  have hl0 := h.l0
  have hl1 := h.l1
  have HC := Lib.hid hc
  clear h hc
  simp only [scrV]
  go_enter Tryd.func16, Tryd.ntmps16
  go_wp2_with fail
  refine CH.out.mono ?_
  rintro e w1 ⟨rfl, hb⟩
  rw [HC.out]
  have HB := Lib.hid hb
  clear hb
  go_wp2_with fail
  go_ret2
  exact ⟨fmt_end F0.out, ((Below.refl _ _).alloc (Nat.le_refl _) _).trans (HB.out.mono (by simp))⟩
set_option maxRecDepth 100000 in
set_option maxHeartbeats 4000000 in
theorem format_good (w : World) (A D : Option Addr) (c d : Nat) (s : ScrD) (h : ScrAt w A D s) (ok : ScrOk s) (tb : TabB w.heap.size w) (hc : checkS s = 0) :
    Calls Tryd.prog 16 #[scrV s.mask A s.threads.length c D s.picks.length d] w fun e w' => e = .returned (.tuple #[.string ⟨(formatS s).1.toArray⟩, .int .i64 (formatS s).2]) ∧ Below w.heap.size w w' := by
  have F1 := Lib.hid (format_long s)
  have F2 := Lib.hid (format_fine s hc)
  have TX := Lib.hid (textS_eq s)
  have CH := Lib.hid (check_any (w.alloc (.cells #[.int .u64 s.mask, .slice A s.threads.length c, .slice D s.picks.length d] 32)) A D c d s (h.below ((Below.refl _ _).alloc (Nat.le_refl _) _)))
  have SC0 := Lib.hid (h.below ((Below.refl _ _).alloc (Nat.le_refl _) (.cells #[.int .u64 s.mask, .slice A s.threads.length c, .slice D s.picks.length d] 32)))
  have TB0 := Lib.hid (tb.on ((Below.refl _ _).alloc (Nat.le_refl _) (.cells #[.int .u64 s.mask, .slice A s.threads.length c, .slice D s.picks.length d] 32)))
  have hl0 := h.l0
  have hl1 := h.l1
  have hl8 := check_len hc
  have OK := Lib.hid ok
  have HC := Lib.hid hc
  have m0 := ok.m0
  have m1 := ok.m1
  have nl := nat_len s.mask m1
  clear h hc ok tb
  simp only [scrV]
  go_enter Tryd.func16, Tryd.ntmps16
  go_wp2_with fail
  refine CH.out.mono ?_
  rintro e w1 ⟨rfl, hb⟩
  rw [HC.out]
  have hz : w.heap.size < w1.heap.size := by
    have := hb.size
    simp at this
    omega
  have BX := Lib.hid (scr_box hb (by simp))
  have bx := scr_box hb (by simp)

  have SC := Lib.hid (SC0.out.below hb)
  have HB0 := Lib.hid hb
  have TB := Lib.hid (Lib.tabBelow_of_tabIs (TB0.out.on (hb.mono (by simp))).here)
  have FIN := Lib.hid (fun wr (h : Below w1.heap.size w1 wr) => (((Below.refl _ w).alloc (Nat.le_refl _) _).trans (hb.mono (by simp))).trans (h.mono (Nat.le_of_lt hz)))
  clear hb CH SC0 TB0
  have kc := Lib.run_convert_bytes_const (P := Tryd.prog) w1 22 5 #[.int .u8 109, .int .u8 97, .int .u8 115, .int .u8 107, .int .u8 32] 5 5 Tryd.underlying22 Tryd.underlying5
  simp only [List.size_toArray, List.length_cons, List.length_nil, Nat.zero_add, Nat.reduceAdd] at kc
  have b0 : Below w1.heap.size w1 (w1.alloc (.cells #[.int .u8 109, .int .u8 97, .int .u8 115, .int .u8 107, .int .u8 32] 5 (5, 6))) := (Below.refl _ _).alloc (Nat.le_refl _) _
  have B0 := Lib.hid b0
  have bm := B0.out.cell (p := ⟨w.heap.size, 0, none⟩) hz
  rw [bx] at bm
  have hc5 : ∀ j u, (Lib.byteCells [109, 97, 115, 107, 32])[j]? = some u → (w1.alloc (.cells #[.int .u8 109, .int .u8 97, .int .u8 115, .int .u8 107, .int .u8 32] 5 (5, 6))).cell? ⟨w1.heap.size, j, none⟩ = some u := by
    intro j u hj
    rw [World.cell?_alloc_mark]
    simpa [Lib.byteCells] using hj
  have HC5 := Lib.hid hc5
  clear b0 hc5
  go_wp2_with fail
  refine (uint_full w1.heap.size w1.heap.size w1 _ [109, 97, 115, 107, 32] B0.out (by simp) (kept_new B0.out) (by simp) HC5.out 5 rfl TB.out s.mask m0 m1 (by simp)).mono ?_
  rintro e w2 ⟨v2, rfl, hb2⟩
  clear kc bm HC5 B0
  have H2 := Lib.hid hb2
  clear hb2
  go_wp2_with (at_builtin; (refine wpList_buf_new rfl _ _ rfl _ _ _ _ _ H2.out rfl [10] _ rfl 1 rfl rfl ?hl ?_); (case hl => (simp only [List.length_append, List.length_cons, List.length_nil]; omega)); intro v3 w3 hb3; (have H3 := Lib.hid hb3); (have x3 := hb3.below.cell (p := ⟨w.heap.size, 1, none⟩) hz); (rw [bx] at x3); clear hb3 H2)
  obtain ⟨pre, hpre⟩ : ∃ pre, pre = preT s.mask := ⟨_, rfl⟩
  have hpl : pre.length ≤ 40 := by rw [hpre]; simp only [preT, List.length_append, List.length_cons, List.length_nil]; omega
  have h3 := H3.out
  rw [show [109, 97, 115, 107, 32] ++ natT s.mask ++ [10] = pre from by rw [hpre]; rfl] at h3
  rw [← hpre] at TX
  have H3' := Lib.hid h3
  clear h3 hpre H3
  obtain ⟨m, ts, ps⟩ := s
  simp only at *
  go_loopw [5, 29] (fun v i wr => ThrRel w1.heap.size w1 pre ts v i wr) (fun _ i _ => ts.length - (intOf i).toNat)
  case atStart => exact ⟨0, by omega, rfl, by simpa using H3'.out, by simp; omega⟩
  case round =>
    clear x3 H3'
    obtain ⟨k, hk, rfl, hbr, hlr⟩ := hrel
    have HR := Lib.hid hbr
    clear hbr
    by_cases hlt : k < ts.length
    · obtain ⟨t, ht⟩ : ∃ t, ts[k]? = some t := ⟨_, List.getElem?_eq_getElem hlt⟩
      obtain ⟨b, off, u, cc, rfl, hbz, hcell0, hops⟩ := thr_cell3 SC.out.thr ht
      have hcell := (HR.out.below.cell (p := ⟨b, off + k, none⟩) hbz).trans hcell0
      clear hcell0
      have ht2 := (SC.out).l2 t (List.mem_of_getElem? ht)
      have TT := Lib.hid ht
      have OPS := Lib.hid hops
      clear ht hops
      have hj0 : (0 : Int) ≤ k := by omega
      have hj1 : (k : Int) < ts.length := by omega
      go_wp2_with (at_builtin; (refine wpList_buf_text rfl _ _ rfl _ _ _ _ _ HR.out rfl ⟨#[116, 104, 114, 101, 97, 100, 10]⟩ rfl ?hl ?_); (case hl => (have : (ByteArray.mk #[116, 104, 114, 101, 97, 100, 10]).size = 7 := rfl); omega); intro v4 w4 hb4; (have H4 := Lib.hid hb4); clear hb4)
      obtain ⟨l4, e4, hl4⟩ : ∃ l4, l4 = pre ++ (ts.take k).flatMap threadT ++ [116, 104, 114, 101, 97, 100, 10] ∧ l4.length ≤ 1048600 + 7 * (k + 1) := ⟨_, rfl, by rw [List.length_append]; simp only [List.length_cons, List.length_nil]; omega⟩
      have h4 : Buf w1.heap.size w1 w4 v4 l4 := by rw [e4]; exact H4.out
      have H4' := Lib.hid h4
      have E4 := Lib.hid e4
      clear h4 e4 H4 HR hcell
      go_loopw [5, 37] (fun v i wr => LineRel w1.heap.size w1 l4 t (1048600 + 7 * (k + 1)) v i wr) (fun _ i _ => t.length - (intOf i).toNat)
      case atStart => exact ⟨0, by omega, rfl, by simpa using H4'.out, by simpa using hl4⟩
      case round =>
        clear H4'
        obtain ⟨j, hj, rfl, hbi, hli⟩ := hrel
        have HI := Lib.hid hbi
        clear hbi
        by_cases hjt : j < t.length
        · obtain ⟨o, ho⟩ : ∃ o, t[j]? = some o := ⟨_, List.getElem?_eq_getElem hjt⟩
          obtain ⟨b2, off2, rfl, c0, c1, c2, c3, c4⟩ := ops_cells (OPS.out.keep HI.out.below.size HI.out.below.block) rfl ho
          have TF := Lib.hid (take_flat lineT t j o ho)
          have OO := Lib.hid (OK.out.ops t (List.mem_of_getElem? TT.out) o (List.mem_of_getElem? ho))
          clear ho
          have hj2 : (0 : Int) ≤ j := by omega
          have hj3 : (j : Int) < t.length := by omega
          by_cases hkey : 524288 < o.key.size
          · have hd : decide ((524288 : Int) < (o.key.size : Int)) = true := decide_eq_true (by omega)
            go_wp2_with fail
            go_ret2
            refine ⟨fmt_end (F1.out (l4 ++ (t.take (j + 1)).flatMap lineT) ((t.drop (j + 1)).flatMap lineT ++ ((ts.drop (k + 1)).flatMap threadT ++ picksW ++ ps.flatMap (fun p => 32 :: Lib.itoa p) ++ [10])) ?_ ?_), FIN.out _ (HI.out.alloc _).below⟩
            · rw [TX.out, E4.out, take_drop_flat threadT ts (k + 1), take_flat threadT ts k t TT.out, show threadT t = [116, 104, 114, 101, 97, 100, 10] ++ t.flatMap lineT from rfl, take_drop_flat lineT t (j + 1)]
              simp [List.append_assoc]
            · have := key_long o hkey
              rw [TF.out]
              simp only [List.length_append]
              omega
          · have hd : decide ((524288 : Int) < (o.key.size : Int)) = false := decide_eq_false (by omega)
            go_wp2_with fail
            have AP := appendOp_any w1.heap.size w1 _ _ _ o (HI.out.alloc (.cells #[Value.int .i64 o.kind, .int .i64 o.handle, .string o.key, .int .u64 o.value, .int .u64 o.expect] 39)) TB.out OO.out (by omega) (by omega)
            simp only [opV] at AP
            refine AP.mono ?_
            rintro e w7 ⟨v7, rfl, hb7⟩
            clear AP
            obtain ⟨l7, e7⟩ : ∃ l7, l7 = l4 ++ (t.take (j + 1)).flatMap lineT := ⟨_, rfl⟩
            have e7' : l4 ++ (t.take j).flatMap lineT ++ lineT o = l7 := by rw [e7, TF.out]; simp
            rw [e7'] at hb7
            obtain ⟨a7, c7, rfl⟩ := hb7.shape
            have H7 := Lib.hid hb7
            have E7 := Lib.hid e7
            have hcap : l7.length ≤ 9000000 := by
              rw [← e7', List.length_append]
              have := line_len o OO.out
              omega
            clear hb7 e7 e7' HI c0 c1 c2 c3 c4
            by_cases hbig : 1048576 < l7.length
            · have hd2 : decide ((1048576 : Int) < (l7.length : Int)) = true := decide_eq_true (by omega)
              go_wp2_with fail
              go_ret2
              refine ⟨fmt_end (F1.out l7 ((t.drop (j + 1)).flatMap lineT ++ ((ts.drop (k + 1)).flatMap threadT ++ picksW ++ ps.flatMap (fun p => 32 :: Lib.itoa p) ++ [10])) ?_ hbig), FIN.out _ H7.out.below⟩
              rw [E7.out, TX.out, E4.out, take_drop_flat threadT ts (k + 1), take_flat threadT ts k t TT.out, show threadT t = [116, 104, 114, 101, 97, 100, 10] ++ t.flatMap lineT from rfl, take_drop_flat lineT t (j + 1)]
              simp [List.append_assoc]
            · have hd2 : decide ((1048576 : Int) < (l7.length : Int)) = false := decide_eq_false (by omega)
              go_wp2_with fail
              go_roundw
              case rel => exact ⟨j + 1, by omega, by go_num, by rw [← E7.out]; exact H7.out, by rw [← E7.out]; omega⟩
              case measure => simp [intOf]; omega
        · obtain rfl : j = t.length := by omega
          rw [List.take_length] at HI hli
          go_wp2_with fail
          refine ⟨⟨k + 1, by omega, by go_num, ?_, ?_⟩, by simp [intOf]; omega⟩
          · rw [take_flat threadT ts k t TT.out]
            have := HI.out
            rw [E4.out] at this
            simpa [threadT, threadW, List.append_assoc] using this
          · rw [take_flat threadT ts k t TT.out]
            have := hli
            rw [E4.out] at this
            simpa [threadT, threadW, List.append_assoc] using this
    · go_wp2_with (at_builtin; (refine wpList_buf_text rfl _ _ rfl _ _ _ _ _ HR.out rfl ⟨#[112, 105, 99, 107, 115]⟩ rfl ?hl ?_); (case hl => (have : (ByteArray.mk #[112, 105, 99, 107, 115]).size = 5 := rfl); omega); intro v5 w5 hb5; (have H5 := Lib.hid hb5); (have x5 := hb5.below.cell (p := ⟨w.heap.size, 2, none⟩) hz); (rw [bx] at x5); clear hb5)
      obtain ⟨l5, e5, hl5⟩ : ∃ l5, l5 = pre ++ ts.flatMap threadT ++ picksW ∧ l5.length ≤ 1048700 := ⟨_, rfl, by
        rw [List.take_of_length_le (by omega)] at hlr
        rw [List.length_append]; simp only [picksW, List.length_cons, List.length_nil]; omega⟩
      have h5 : Buf w1.heap.size w1 w5 v5 l5 := by
        rw [e5]
        have := H5.out
        rw [List.take_of_length_le (by omega)] at this
        exact this
      have H5' := Lib.hid h5
      have E5 := Lib.hid e5
      clear h5 e5 H5 HR
      go_loopw [5, 58] (fun v i wr => PickRel w1.heap.size w1 l5 ps v i wr) (fun _ i _ => ps.length - (intOf i).toNat)
      case atStart => exact ⟨0, by omega, rfl, by simpa using H5'.out, by simpa using hl5⟩
      case round =>
        clear H5' x5
        obtain ⟨j, hj, rfl, hbi, hli⟩ := hrel
        have HI := Lib.hid hbi
        clear hbi
        by_cases hjt : j < ps.length
        · obtain ⟨p, hp⟩ : ∃ p, ps[j]? = some p := ⟨_, List.getElem?_eq_getElem hjt⟩
          obtain ⟨b, off, rfl, hcell⟩ := pick_cell (SC.out.below HI.out.below).pks hp
          obtain ⟨p0, p1⟩ := OK.out.picks p (List.mem_of_getElem? hp)
          have li := itoa_len p p0 p1
          have TF := Lib.hid (take_flat (fun p => 32 :: Lib.itoa p) ps j p hp)
          clear hp
          have hj0 : (0 : Int) ≤ j := by omega
          have hj1 : (j : Int) < ps.length := by omega
          go_wp2_with (at_builtin; (refine wpList_buf_new rfl _ _ rfl _ _ _ _ _ HI.out rfl [32] _ rfl 1 rfl rfl ?hl ?_); (case hl => omega); intro v6 w6 hb6; (have H6 := Lib.hid hb6); clear hb6)
          refine (buf_int _ _ _ v6 _ H6.out TB.out p p0 p1 (by simp only [List.length_append, List.length_cons, List.length_nil] at *; omega)).mono ?_
          rintro e w7 ⟨v7, rfl, hb7⟩
          obtain ⟨l7, e7⟩ : ∃ l7, l7 = l5 ++ (ps.take (j + 1)).flatMap (fun p => 32 :: Lib.itoa p) := ⟨_, rfl⟩
          have e7' : l5 ++ (ps.take j).flatMap (fun p => 32 :: Lib.itoa p) ++ [32] ++ Lib.itoa p = l7 := by rw [e7, TF.out]; simp
          rw [e7'] at hb7
          obtain ⟨a7, c7, rfl⟩ := hb7.shape
          have hl7 : l7.length ≤ 1048700 + 22 := by
            rw [← e7', List.length_append, List.length_append]; simp only [List.length_cons, List.length_nil]; omega
          have H7 := Lib.hid hb7
          have E7 := Lib.hid e7
          clear hb7 H6 HI e7 e7' hcell
          by_cases hbig : 1048576 < l7.length
          · have hd : decide ((1048576 : Int) < (l7.length : Int)) = true := decide_eq_true (by omega)
            go_wp2_with fail
            go_ret2
            refine ⟨fmt_end (F1.out l7 ((ps.drop (j + 1)).flatMap (fun p => 32 :: Lib.itoa p) ++ [10]) ?_ hbig), FIN.out _ H7.out.below⟩
            rw [TX.out, E7.out, E5.out, take_drop_flat (fun p => 32 :: Lib.itoa p) ps (j + 1)]
            simp [List.append_assoc]
          · have hd : decide ((1048576 : Int) < (l7.length : Int)) = false := decide_eq_false (by omega)
            go_wp2_with fail
            go_roundw
            case rel => exact ⟨j + 1, by omega, by go_num, by rw [← E7.out]; exact H7.out, by rw [← E7.out]; omega⟩
            case measure => simp [intOf]; omega
        · obtain rfl : j = ps.length := by omega
          rw [List.take_length] at HI hli
          obtain ⟨l7, e7⟩ : ∃ l7, l7 = textS ⟨m, ts, ps⟩ := ⟨_, rfl⟩
          have hl7 : l7.length ≤ 1048701 := by
            rw [e7, TX.out, ← E5.out, List.length_append]
            simp only [List.length_cons, List.length_nil]; omega
          have E8 := Lib.hid (show l5 ++ ps.flatMap (fun p => 32 :: Lib.itoa p) ++ [10] = l7 by rw [e7, TX.out, E5.out])
          have E7 := Lib.hid e7
          clear e7
          by_cases hbig : 1048576 < l7.length
          · have hd : decide ((1048576 : Int) < (l7.length : Int)) = true := decide_eq_true (by omega)
            go_wp2_with (at_builtin; (refine wpList_buf_new rfl _ _ rfl _ _ _ _ _ HI.out rfl [10] _ rfl 1 rfl rfl ?hl ?_); (case hl => omega); intro v6 w6 hb6; (rw [E8.out] at hb6); (obtain ⟨a7, c7, rfl⟩ := hb6.shape); (have hcs := buf_string hb6); (have H7 := Lib.hid hb6); clear hb6)
            go_ret2
            exact ⟨fmt_end (F1.out l7 [] (by rw [E7.out]; simp) hbig), FIN.out _ H7.out.below⟩
          · have hd : decide ((1048576 : Int) < (l7.length : Int)) = false := decide_eq_false (by omega)
            go_wp2_with (at_builtin; (refine wpList_buf_new rfl _ _ rfl _ _ _ _ _ HI.out rfl [10] _ rfl 1 rfl rfl ?hl ?_); (case hl => omega); intro v6 w6 hb6; (rw [E8.out] at hb6); (obtain ⟨a7, c7, rfl⟩ := hb6.shape); (have hcs := buf_string hb6); (have H7 := Lib.hid hb6); clear hb6)
            go_ret2
            refine ⟨?_, FIN.out _ H7.out.below⟩
            have := fmt_end (F2.out (by rw [← E7.out]; omega))
            rw [← E7.out] at this
            exact this
theorem format_any (w : World) (A D : Option Addr) (c d : Nat) (s : ScrD) (h : ScrAt w A D s) (ok : ScrOk s) (tb : TabB w.heap.size w) :
    Calls Tryd.prog 16 #[scrV s.mask A s.threads.length c D s.picks.length d] w fun e w' => e = .returned (.tuple #[.string ⟨(formatS s).1.toArray⟩, .int .i64 (formatS s).2]) ∧ Below w.heap.size w w' := by
  rcases check_or s with hc | hc
  · exact format_good w A D c d s h ok tb hc
  · exact format_bads w A D c d s h hc
end Go.Proofs.YtnoeiaicligmiaaDoor
