/- Package linz' search: the walk of seen. -/
import Derived.Test.YtbmoehndnbbhcaaGreatDoorMModC
import Derived.Test.YtbmoehndnbbhcaaGreatDoorMZYa
import Derived.Test.YtbmoehndnbbhcaaGreatDoorModQ
import Derived.Deep.RegionHeld3
import Derived.Laws.IdiomStrings
import Derived.Lib.BufferRead
namespace Go.Proofs.YtbmoehndnbbhcaaGreatDoor
set_option linter.unusedVariables false
set_option linter.unusedSimpArgs false
open Go Go.RowKit Go.MapKept
theorem Buf.more {B : Nat} {w0 w w' : World} {v : Value} {l : List UInt8} (h : Buf B w0 w v l) (hb : Below w.heap.size w w') : Buf B w0 w' v l :=
  ⟨row_keep h.own fun g hg => hb.block g (row_lt h.own hg), h.below.trans (hb.mono h.size), fun k x hk hn hx => by
    have h1 := h.kept k x hk hn hx
    exact (hb.block k (Array.getElem?_eq_some_iff.1 h1).1).trans h1, Nat.le_trans h.size hb.size⟩
theorem Buf.restart {B : Nat} {w0 w : World} {v : Value} {l : List UInt8} (h : Buf B w0 w v l) : Buf B w w v l := ⟨h.own, Below.refl _ _, Lib.OthersKept.refl _ _ _, h.size⟩
theorem Buf.join {B : Nat} {w0 w1 w : World} {v v1 : Value} {l l1 : List UInt8} (h1 : Buf B w0 w1 v1 l1) (h : Buf B w1 w v l) : Buf B w0 w v l := ⟨h.own, h1.below.trans h.below, h1.kept.trans h.kept, h.size⟩
theorem Buf.start (w : World) : Buf w.heap.size w w (.slice none 0 0) [] := ⟨World.ownsRow_nil _ _ _ _, Below.refl _ _, Lib.OthersKept.refl _ _ _, Nat.le_refl _⟩
theorem dec_len (k n : Nat) (h : n < 10 ^ (k + 1)) : (Lib.decDigits n).length ≤ k + 1 := by
  induction k generalizing n with
  | zero => rw [Lib.decDigits, dif_pos (by simpa using h)]; simp
  | succ k ih =>
    rw [Lib.decDigits]
    split
    · simp
    · rw [List.length_append, List.length_singleton]
      have := ih (n / 10) (by rw [Nat.div_lt_iff_lt_mul (by omega)]; rw [Nat.pow_succ] at h; exact h)
      omega
theorem nat_len (v : Int) (h1 : v ≤ 18446744073709551615) : (natT v).length ≤ 20 := dec_len 19 v.toNat (by omega)
theorem itoa_len (i : Int) (h0 : 0 ≤ i) (h1 : i ≤ 9223372036854775807) : (Lib.itoa i).length ≤ 20 := by
  unfold Lib.itoa
  rw [if_neg (by omega)]
  exact dec_len 19 i.toNat (by omega)
theorem step_buf {ops : Array Oper} {o : Oper} {a : Act} {K : Act → World → Prop} {Q : Exit → Act → World → Prop} {E : Prop} (hgd : o.guard = none) (s x : Operand) (ho : o.op = .call { callee := .builtin .append, args := #[s, x], argTypes := #[130, 130] })
    (B : Nat) (w0 W : World) (v : Value) (l : List UInt8) (hb : Buf B w0 W v l) (hs : a.eval s = v) (bs : List UInt8) (ad : Addr) (m : Nat) (hm : bs.length = m)
    (hx : a.eval x = .slice (some ad) m m) (hc : ∀ j u, (Lib.byteCells bs)[j]? = some u → W.cell? (ad.add j) = some u) (hlen : l.length + m ≤ 140737488355328)
    (hK : ∀ v' w', Buf B w0 w' v' (l ++ bs) → K (a.put o.dst v') w') : if Region.wanted o (yielded ops a.tmps) = true then Oper.wp Tryz.prog o a W K Q else E := by
  have hw : Region.wanted o (yielded ops a.tmps) = true := by simp [Region.wanted, hgd]
  rw [if_pos hw]
  subst hm
  obtain ⟨i0, hi, hz0, hz1, hz2⟩ := info_parts byte_info
  refine wp_append_own W s x 130 ho B 5 i0 (.int .u8 0) 1 1 Tryz.underlying130 hi hz0 hz1 hz2 rfl (by decide) v l.length (Lib.byteCells l) hs hb.own ad bs.length bs.length (Lib.byteCells bs) hx (by simp [Lib.byteCells]) hc (bytes_one bs) (by unfold maxLen; omega) (by omega) hb.size ?_
  intro v' w' ho' hg _
  refine hK v' w' (hb.grown (l' := l ++ bs) ?_ hg)
  rw [Lib.byteCells_append, List.length_append]
  exact ho'
theorem step_text {ops : Array Oper} {o : Oper} {a : Act} {K : Act → World → Prop} {Q : Exit → Act → World → Prop} {E : Prop} (hgd : o.guard = none) (s x : Operand) (ho : o.op = .call { callee := .builtin .append, args := #[s, x], argTypes := #[130, 9] })
    (B : Nat) (w0 W : World) (v : Value) (l : List UInt8) (hb : Buf B w0 W v l) (hs : a.eval s = v) (t : ByteArray) (hx : a.eval x = .string t) (hlen : l.length + t.size ≤ 140737488355328)
    (hK : ∀ v' w', Buf B w0 w' v' (l ++ t.data.toList) → K (a.put o.dst v') w') : if Region.wanted o (yielded ops a.tmps) = true then Oper.wp Tryz.prog o a W K Q else E := by
  have hw : Region.wanted o (yielded ops a.tmps) = true := by simp [Region.wanted, hgd]
  rw [if_pos hw]
  obtain ⟨i0, hi, hz0, hz1, hz2⟩ := info_parts byte_info
  obtain ⟨v', w', hr, h2, h3, h4⟩ := Lib.run_append_own_string (P := Tryz.prog) W B 130 9 o.type 5 i0 Tryz.underlying130 Tryz.underlying9 hi hz0 hz1 hz2 v l.length (Lib.byteCells l) hb.own t (by unfold maxLen; omega) hlen hb.size
  unfold Oper.wp execOp
  simp only [ho, resolve, invoke, builtin, Sem.run_bind, Sem.run_pure, Result.andThen_ok, List.map_toArray, List.map_cons, List.map_nil, hs, hx, hr]
  refine hK v' w' (hb.grown (l' := l ++ t.data.toList) ?_ h3)
  rw [Lib.byteCells_append, List.length_append, ← Lib.size_eq]
  exact h2
theorem one_new (w : World) (a : UInt8) (T : TypeId) : ∀ j u, (Lib.byteCells [a])[j]? = some u → (w.alloc (.cells #[.int .u8 (a.toNat : Nat)] T)).drew.cell? ((⟨w.heap.size, 0, none⟩ : Addr).add j) = some u := by
  intro j u h
  exact cells_new w [a] T j u h
theorem buf_string {B : Nat} {w0 w : World} {v : Value} {l : List UInt8} (h : Buf B w0 w v l) : (convert 130 9 v).run Tryz.prog w = .ok (.string ⟨l.toArray⟩) w := by
  rcases h.own.2 with ⟨rfl, h0⟩ | ⟨g, cap, cur, rfl, _, hg, _, _, _, htk⟩
  · obtain rfl : l = [] := List.length_eq_zero_iff.1 h0
    exact Lib.run_convert_nil_bytes w _ _ 5 0 Tryz.underlying130 (by kernel_rfl) Tryz.underlying9
  · exact run_convert_bytes_back w _ _ 5 _ _ l Tryz.underlying130 (by kernel_rfl) Tryz.underlying9 (Lib.bytes_of_row hg (by simpa using htk))
theorem contents_no (w : World) (bf bm bi : Nat) (A : AFam) (S : Nat → Prop) (n : Int) (h : FamA w bf bm bi A S) (hd : alook A.maps n = none) :
    Calls Tryz.prog 57 #[.pointer (some ⟨bf, 0, none⟩), .int .i64 n] w fun e w' => e = .returned (.tuple #[.slice none 0 0, .bool false, .bool false]) ∧ Below w.heap.size w w' := by
  obtain ⟨F, h1, rfl, h3⟩ := h
  refine contents_none w bf bm bi F h1 n ?_
  cases hf : alook F.maps n with
  | none => rfl
  | some d => simp only [FamD.abs, alook_amap, hf] at hd; simp at hd
/-- an array of truth values is stored whole -/
theorem nd_put (w : World) (f : Nat → Bool) : ∃ W2, (storeCells ⟨w.heap.size, 0, none⟩ (ndArr f).toList).run Tryz.prog (w.alloc (.cells Tryz.zeroCells128 128)) = .ok () W2 ∧ W2.heap[w.heap.size]? = some (.cells (ndArr f) 128 (0, 0)) ∧ Below w.heap.size w W2 := by
  have hz : (w.alloc (.cells Tryz.zeroCells128 128)).heap[w.heap.size]? = some (.cells (ndArr fun _ => false) 128 (0, 0)) := by rw [nd_zero]; exact (heap_alloc w _).1
  have hr := run_storeCells_cells (P := Tryz.prog) w.heap.size 0 (ndArr f).toList 0 (w.alloc (.cells Tryz.zeroCells128 128)) (fun j hj => by
      rw [Array.length_toList, nd_size] at hj
      rw [show 0 + 0 + j = j by omega, blk_cell hz, nd_get _ hj]; rfl) (fun j hj => cells_free hz _) (fun v hv => by
      obtain ⟨n, _, rfl⟩ := List.mem_map.1 hv
      rfl)
  obtain ⟨ht, cs', k1, k2, k3, k4⟩ := setCells_heap (ndArr f).toList 0 _ _ hz (by rw [Array.length_toList, nd_size, nd_size]; omega)
  refine ⟨_, hr, ?_, RecB.turned_below (balZ (Below.refl _ _) _) ht (Nat.le_refl _)⟩
  have : cs' = ndArr f := by
    apply Array.ext_getElem?
    intro i
    by_cases hi : i < 129
    · have h1 := nd_get f hi
      rw [h1]
      have := k4 i (.bool (f i)) (by rw [Array.getElem?_toList]; exact h1)
      rwa [Nat.zero_add] at this
    · rw [Array.getElem?_eq_none (by rw [k2, nd_size]; omega), Array.getElem?_eq_none (by rw [nd_size]; omega)]
  rw [Nat.add_zero, k1, this]
theorem part_bool (w : World) (xs : Array Value) (i : Nat) (b : Bool) (h : xs[i]? = some (.bool b)) : (part 4 xs i).run Tryz.prog w = .ok (.bool b) w := by
  obtain ⟨i0, hi, hz0, hz1, hz2⟩ := info_parts3 (z := .bool false) (sz := 1) (by8 := 1) (e := 4) (by kernel_rfl)
  simp [part, run_underlying Tryz.underlying4, typeInfo, hi, hz1, h]
theorem run_index_nd (xs : Array Value) (b : Bool) (j : Nat) (hj : j < 129) (h : xs[j]? = some (.bool b)) (w : World) : (Instr.index 128 (.agg xs) (.int .i64 j)).run Tryz.prog w = .ok (.bool b) w := by
  have h1 : (0 : Int) ≤ j ∧ (j : Int) < ((129 : Nat) : Int) := ⟨by omega, by omega⟩
  simp only [Instr.index, asIntOf, Sem.run_bind, Sem.run_pure, Result.andThen_ok, run_underlying Tryz.underlying128]
  rw [if_pos h1, Sem.run_bind, Tryz.sizeOf4]
  simp only [Result.andThen_ok, Nat.mul_one, Int.toNat_natCast]
  exact part_bool w xs j b h
theorem len_str (k : ByteArray) (W : World) (ty : TypeId) : (Builtin.len_ #[9] ty #[.string k]).run Tryz.prog W = .ok (.int .i64 k.size) W := by
  simp [Builtin.len_, run_underlying Tryz.underlying9, Builtin.lenOf]
  rfl
def SeRel (w : World) (N : Nat) (v i : Value) (wr : World) : Prop := ∃ (j : Nat) (l : List UInt8), j ≤ 129 ∧ i = .int .i64 j ∧ l.length ≤ j * (40 + N * 140) ∧ Buf w.heap.size w wr v l
def SeIn (B : Nat) (w1 : World) (L0 n : Nat) (v i : Value) (wr : World) : Prop := ∃ (j : Nat) (l : List UInt8), j ≤ n ∧ i = .int .i64 j ∧ l.length ≤ L0 + j * 140 ∧ Buf B w1 wr v l
def StrPost (w : World) (e : Ending) (w' : World) : Prop := ∃ str : ByteArray, e = .returned (.string str) ∧ str.size ≤ 140737488355328 ∧ Below w.heap.size w w'
set_option maxRecDepth 100000 in
set_option maxHeartbeats 4000000 in
theorem seen_any (w : World) (sb rb fm : Nat) (s : SrD) (h : SrAt w sb rb fm s) (hf : SrFit s) (S : Nat) (hS : S < 4294967296) (bf bm bi : Nat) (A : AFam) (SS : Nat → Prop) (N : Nat) (hN : N ≤ 1000000) (hF : FamA w bf bm bi A SS) (ok : OkA N A) (va : ValA A) (tb : TabB w.heap.size w) :
    Calls Tryz.prog 38 #[.pointer (some ⟨sb, 0, none⟩), .int .u32 S, .pointer (some ⟨bf, 0, none⟩)] w (StrPost w) := by
  have H := Lib.hid h
  have HF := Lib.hid hf
  have FA := Lib.hid hF
  have OK := Lib.hid ok
  have VA := Lib.hid va
  have TB := Lib.hid tb
  clear h hf hF ok va tb
  go_enter Tryz.func38, Tryz.ntmps38
  go_wp2_with (first | (go_at_call 56; refine stopAt ?_))
  unfold StopAt
  refine (needed_any w sb rb fm s H.out HF.out S hS).mono ?_
  rintro e w1 ⟨f, rfl, hb1⟩
  have B1 := Lib.hid hb1
  clear hb1
  obtain ⟨W2, hst, hw2, hb2⟩ := nd_put w1 f
  have hsz := nd_size f
  have NW := Lib.hid hw2
  have B2 := Lib.hid (B1.out.trans (hb2.mono B1.out.size))
  have HIN := Lib.hid (show (Tryz.prog.info? 128).map (·.size) = some (ndArr f).size by rw [nd_size]; kernel_rfl)
  have IX := Lib.hid (fun n (hn : n < 129) => nd_get f hn)
  clear hw2 hb2
  generalize hA : ndArr f = Arr at *
  clear hA
  go_wp2_with fail
  rename_i hKK
  refine wp_load_row 128 _ rfl w1.heap.size rfl 128 Arr (0, 0) _ NW.out Tryz.underlying128 rfl HIN.out ?_
  refine hKK _ _ ?_
  simp only [Act.put, List.setIfInBounds_toArray, List.set_cons_zero, List.set_cons_succ]
  clear hKK hst hsz
  go_wp2_with fail
  go_loopw [8, 20] (fun v i wr => SeRel w N v i wr) (fun _ i _ => 129 - (intOf i).toNat)
  case atStart => exact ⟨0, [], by omega, rfl, by simp, (Buf.start w).more B2.out⟩
  case round =>
    obtain ⟨j, l, hj, rfl, hl, hb⟩ := hrel
    have BU := Lib.hid hb
    clear hb
    have hj0 : (0 : Int) ≤ j := by omega
    have hmul : j * (40 + N * 140) ≤ 129 * (40 + N * 140) := Nat.mul_le_mul_right _ hj
    have hsucc : (j + 1) * (40 + N * 140) = j * (40 + N * 140) + (40 + N * 140) := by rw [Nat.add_mul, Nat.one_mul]
    generalize hM : 40 + N * 140 = M at *
    by_cases hlt : j < 129
    · have hj1 : (j : Int) < 129 := by omega
      have hix := run_index_nd Arr (f j) j hlt (IX.out j hlt)
      cases hfj : f j with
      | false =>
        rw [hfj] at hix
        clear hfj
        have NX : Hid (SeRel w N u8 (.int .i64 ((j : Int) + 1)) wr) := ⟨j + 1, l, by omega, by go_num, by rw [hM, hsucc]; omega, BU.out⟩
        go_wp2_with fail
        go_roundw
        case rel => exact NX.out
        case measure => simp [intOf]; omega
      | true =>
        rw [hfj] at hix
        clear hfj
        cases hd : alook A.maps (j : Int) with
        | none =>
          have HD := Lib.hid hd
          clear hd
          go_wp2_with (first | (go_at_call 57; refine stopAt ?_))
          unfold StopAt
          refine (contents_no wr bf bm bi A SS j (FA.out.below BU.out.below) HD.out).mono ?_
          rintro e w4 ⟨rfl, hb4⟩
          have NX : Hid (SeRel w N u8 (.int .i64 ((j : Int) + 1)) w4) := ⟨j + 1, l, by omega, by go_num, by rw [hM, hsucc]; omega, BU.out.more hb4⟩
          clear hb4
          go_wp2_with fail
          go_roundw
          case rel => exact NX.out
          case measure => simp [intOf]; omega
        | some dm =>
          have HD := Lib.hid hd
          clear hd
          go_wp2_with (first | (go_at_call 57; refine stopAt ?_))
          unfold StopAt
          refine (contents_A wr bf bm bi A SS N (by omega) j dm (FA.out.below BU.out.below) OK.out HD.out).mono ?_
          rintro e w4 ⟨vv, rfl, g, rfl, hrow, hb4⟩
          have ROW := Lib.hid hrow
          have B4 := Lib.hid (BU.out.more hb4)
          have R4 := Lib.hid B4.out.restart
          have TB4 := Lib.hid (TB.out.on B4.out.below)
          have hdl := OK.out.lens _ (alook_mem HD.out)
          simp only at hdl
          clear hb4 hrow hix
          have li := itoa_len (j : Int) (by omega) (by omega)
          go_wp2_with (first | (go_at_call 58; refine stopAt ?_))
          unfold StopAt
          refine (buf_int _ _ w4 _ l R4.out TB4.out j (by omega) (by omega) (by omega)).mono ?_
          rintro e w5 ⟨v5, rfl, hb5⟩
          have B5 := Lib.hid hb5
          clear hb5
          go_wp2_with (at_builtin; (refine wpList_buf_new rfl _ _ rfl _ _ _ _ _ B5.out rfl [32] _ rfl 1 rfl rfl ?hl ?_); (case hl => (simp only [List.length_append]; omega)); intro v6 w6 hb6; (have B6 := Lib.hid hb6); clear hb6)
          refine (buf_bool _ _ w6 _ _ B6.out dm.ro (by simp only [List.length_append, List.length_cons, List.length_nil]; omega)).mono ?_
          rintro e w7 ⟨v7, l7, rfl, hb7, hl7⟩
          have B7 := Lib.hid hb7
          have hl7b : l7.length ≤ l.length + 26 := by
            simp only [List.length_append, List.length_cons, List.length_nil] at hl7
            omega
          clear hb7 hl7 B5 B6
          have hgl := row_lt ROW.out (g := g) rfl
          obtain ⟨_, cur, hcur⟩ := row_kind ROW.out (g := g) rfl
          have CUR := Lib.hid hcur
          have hsl : (sortedOf A.mask dm.vals).length = dm.vals.length := sortedOf_length _ _
          have HSL := Lib.hid hsl
          have SV := Lib.hid (fun x (hx : x ∈ sortedOf A.mask dm.vals) => And.intro (OK.out.keys _ (alook_mem HD.out) x ((sortedOf_perm A.mask dm.vals).mem_iff.1 hx)) (VA.out _ (alook_mem HD.out) x ((sortedOf_perm A.mask dm.vals).mem_iff.1 hx)))
          have DLM : dm.vals.length * 140 ≤ N * 140 := Nat.mul_le_mul_right _ hdl
          have HMM := Lib.hid hM
          have hMb : M ≤ 150000000 := by omega
          clear hcur hsl hM
          generalize sortedOf A.mask dm.vals = L at *
          go_wp2_with fail
          go_loopw [8, 45] (fun v i wr => SeIn w.heap.size w4 (l.length + 26) dm.vals.length v i wr) (fun _ i _ => dm.vals.length - (intOf i).toNat)
          case atStart => exact ⟨0, l7, by omega, rfl, by omega, B7.out⟩
          case round =>
            clear B7 hl7b
            obtain ⟨k, l8, hk, rfl, hl8, hb8⟩ := hrel
            have BV := Lib.hid hb8
            clear hb8
            by_cases hlk : k < dm.vals.length
            · obtain ⟨x, hx⟩ : ∃ x, L[k]? = some x := ⟨_, List.getElem?_eq_getElem (by rw [HSL.out]; exact hlk)⟩
              obtain ⟨hkey, hval⟩ := SV.out x (List.mem_of_getElem? hx)
              have hrw := row_keep (w' := wr) ROW.out (fun g' hg' => by
                simp only [Value.ownBlock, Option.some.injEq] at hg'
                subst hg'
                rw [CUR.out]
                exact BV.out.block CUR.out (by decide))
              obtain ⟨p0, p1⟩ := pair_at hrw hx
              have hk0 : (0 : Int) ≤ k := by omega
              have hk1 : (k : Int) < dm.vals.length := by omega
              obtain ⟨xk, xv⟩ := x
              simp only at hkey hval p0 p1
              clear hx hrw
              have HSC := Lib.hid (Lib.size_eq xk)
              have lk := itoa_len (xk.size : Int) (by omega) (by omega)
              have lv := nat_len xv hval.2
              go_upto_region 14 with fail
              obtain ⟨W1, hW1⟩ : ∃ W1, W1 = wr.alloc (.cells #[.string xk, .int .u64 xv] 122) := ⟨_, rfl⟩
              have KP : Hid (W1.heap[wr.heap.size]? = some (.cells #[.string xk, .int .u64 xv] 122 (0, 0))) := by rw [hW1]; exact (heap_alloc wr _).1
              have BV1 : Hid (Buf w.heap.size w4 W1 u8 l8) := by rw [hW1]; exact BV.out.alloc _
              rw [← hW1]
              clear hW1 p0 p1
              generalize wr.heap.size = pb at *
              have RV := Lib.hid BV1.out.restart
              have TB5 := Lib.hid (TB4.out.on BV1.out.below)
              have PC : Hid (∀ (W : World) v l, Buf w.heap.size W1 W v l → W.cell? ⟨pb, 0, none⟩ = some (.string xk) ∧ W.cell? ⟨pb, 1, none⟩ = some (.int .u64 xv)) := fun W v l hB => by
                have h := hB.block KP.out (by decide)
                exact ⟨blk_cell h 0, blk_cell h 1⟩
              obtain ⟨x0, x1⟩ := PC.out W1 _ _ RV.out
              have LB : l8.length + 1 ≤ 140737488355328 := by
                have : k * 140 ≤ dm.vals.length * 140 := Nat.mul_le_mul_right _ hk
                omega
              have hkk : k * 140 ≤ dm.vals.length * 140 := Nat.mul_le_mul_right _ hk
              have ON := Lib.hid (one_new W1 32 5)
              have LN := Lib.hid (fun (W : World) (ty : TypeId) => len_str xk W ty)
              clear x1
              go_region_held3 (fun W => W.cell? ⟨pb, 0, none⟩ = some (.string xk)) ((first | (with_reducible exact (PC.out _ _ _ RV.out.drew).1) | (with_reducible exact (PC.out _ _ _ (RV.out.alloc _).drew).1) | (with_reducible exact (PC.out _ _ _ B6.out).1) | (with_reducible exact (PC.out _ _ _ B7.out).1))) (first
                | ((refine step_buf rfl _ _ rfl w.heap.size W1 _ u8 l8 (RV.out.alloc _).drew rfl [32] ⟨W1.heap.size, 0, none⟩ 1 rfl rfl ON.out LB ?_); intro v6 w6 hb6; (have B6 := Lib.hid hb6); clear hb6)
                | ((go_at_call 58; (refine (buf_int _ _ _ _ _ B6.out TB5.out xk.size (by omega) (by omega) (by (simp only [List.length_append, List.length_cons, List.length_nil]; omega))).mono ?_); rintro e w7 ⟨v7, rfl, hb7⟩; (have B7 := Lib.hid hb7); clear hb7)))
              have LB2 : (l8 ++ [32] ++ Lib.itoa xk.size).length ≤ l8.length + 21 := by simp only [List.length_append, List.length_cons, List.length_nil]; omega
              generalize l8 ++ [32] ++ Lib.itoa xk.size = l9 at *
              have R7 := Lib.hid B7.out.restart
              have RV7 := Lib.hid B7.out
              clear B6 B7 ON LN lk x0
              have PC7 : Hid (∀ (W : World) v l, Buf w.heap.size w7 W v l → W.cell? ⟨pb, 0, none⟩ = some (.string xk) ∧ W.cell? ⟨pb, 1, none⟩ = some (.int .u64 xv)) := fun W v l hB => PC.out W v l (RV7.out.join hB)
              obtain ⟨x0, _⟩ := PC7.out w7 _ _ R7.out
              have LB3 : l9.length + 1 ≤ 140737488355328 := by omega
              have LB4 : (l9 ++ [32]).length + xk.size ≤ 140737488355328 := by simp only [List.length_append, List.length_cons, List.length_nil]; omega
              have ON7 := Lib.hid (one_new w7 32 5)
              go_upto_region 15 with fail
              go_region_held3 (fun W => W.cell? ⟨pb, 0, none⟩ = some (.string xk)) ((first | (with_reducible exact (PC7.out _ _ _ R7.out.drew).1) | (with_reducible exact (PC7.out _ _ _ (R7.out.alloc _).drew).1) | (with_reducible exact (PC7.out _ _ _ B8.out).1) | (with_reducible exact (PC7.out _ _ _ B9.out).1))) (first
                | ((refine step_buf rfl _ _ rfl w.heap.size w7 _ v7 l9 (R7.out.alloc _).drew rfl [32] ⟨w7.heap.size, 0, none⟩ 1 rfl rfl ON7.out LB3 ?_); intro v8 w8 hb8; (have B8 := Lib.hid hb8); clear hb8)
                | ((refine step_text rfl _ _ rfl w.heap.size w7 _ v8 _ B8.out rfl xk rfl LB4 ?_); intro v9 w9 hb9; (have B9 := Lib.hid hb9); clear hb9))
              have LB5 : (l9 ++ [32] ++ xk.data.toList).length ≤ l8.length + 86 := by
                have := HSC.out
                simp only [List.length_append, List.length_cons, List.length_nil]; omega
              generalize l9 ++ [32] ++ xk.data.toList = l10 at *
              have RV9 := Lib.hid (RV7.out.join B9.out)
              have R9 := Lib.hid B9.out.restart
              clear B8 B9 ON7 x0
              have PC9 : Hid (∀ (W : World) v l, Buf w.heap.size w9 W v l → W.cell? ⟨pb, 0, none⟩ = some (.string xk) ∧ W.cell? ⟨pb, 1, none⟩ = some (.int .u64 xv)) := fun W v l hB => PC.out W v l (RV9.out.join hB)
              obtain ⟨_, x1⟩ := PC9.out w9 _ _ R9.out
              have TB9 := Lib.hid (TB5.out.on RV9.out.below)
              have LB6 : l10.length + 1 ≤ 140737488355328 := by omega
              have ON9 := Lib.hid (one_new w9 32 5)
              go_upto_region 16 with fail
              go_region_held3 (fun W => W.cell? ⟨pb, 1, none⟩ = some (.int .u64 xv)) ((first | (with_reducible exact (PC9.out _ _ _ R9.out.drew).2) | (with_reducible exact (PC9.out _ _ _ (R9.out.alloc _).drew).2) | (with_reducible exact (PC9.out _ _ _ B10.out).2) | (with_reducible exact (PC9.out _ _ _ B11.out).2))) (first
                | ((refine step_buf rfl _ _ rfl w.heap.size w9 _ v9 l10 (R9.out.alloc _).drew rfl [32] ⟨w9.heap.size, 0, none⟩ 1 rfl rfl ON9.out LB6 ?_); intro v10 w10 hb10; (have B10 := Lib.hid hb10); clear hb10)
                | ((go_at_call 60; (refine (buf_uint _ _ _ _ _ B10.out TB9.out xv hval.1 hval.2 (by (simp only [List.length_append, List.length_cons, List.length_nil]; omega))).mono ?_); rintro e w11 ⟨v11, rfl, hb11⟩; (have B11 := Lib.hid hb11); clear hb11)))
              have NX : Hid (SeIn w.heap.size w4 (l.length + 26) dm.vals.length v11 (.int .i64 ((k : Int) + 1)) w11) := by
                refine ⟨k + 1, l10 ++ [32] ++ natT xv, by omega, by go_num, ?_, BV1.out.join (RV9.out.join B11.out)⟩
                simp only [List.length_append, List.length_cons, List.length_nil]
                omega
              clear B10 B11
              go_wp2_with fail
              go_roundw
              case rel => exact NX.out
              case measure => simp [intOf]; omega
            · have hke : k = dm.vals.length := by omega
              have LB2 : l8.length + 1 ≤ 140737488355328 := by subst hke; omega
              have KE := Lib.hid hke
              clear hke
              go_wp2_with (at_builtin; (refine wpList_buf_new rfl _ _ rfl _ _ _ _ _ BV.out rfl [10] _ rfl 1 rfl rfl LB2 ?_); intro v6 w6 hb6; (have B6 := Lib.hid hb6); clear hb6)
              have NX : Hid (SeRel w N v6 (.int .i64 ((j : Int) + 1)) w6) := by
                refine ⟨j + 1, l8 ++ [10], by omega, by go_num, ?_, B4.out.join B6.out⟩
                rw [HMM.out, hsucc]
                have h1 := KE.out
                have h2 := HMM.out
                subst h1
                simp only [List.length_append, List.length_cons, List.length_nil]
                omega
              clear B6
              go_wp2_with fail
              go_roundw
              case rel => exact NX.out
              case measure => simp [intOf]; omega
    · have CV := buf_string BU.out
      go_wp2_with fail
      go_ret
      exact ⟨⟨l.toArray⟩, rfl, by simp [ByteArray.size]; omega, BU.out.below⟩
end Go.Proofs.YtbmoehndnbbhcaaGreatDoor
