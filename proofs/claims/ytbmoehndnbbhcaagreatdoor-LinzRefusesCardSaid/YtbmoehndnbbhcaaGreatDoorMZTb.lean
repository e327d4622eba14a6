/- The walk of package history's Invoked. The walks of the reference's has and excused. The walk of the reference's members. -/
import Derived.Test.YtbmoehndnbbhcaaGreatDoorMZHa
import Derived.BigQuiet
namespace Go.Proofs.YtbmoehndnbbhcaaGreatDoor
set_option linter.unusedVariables false
set_option linter.unusedSimpArgs false
open Go Go.RowKit Go.MapKept
theorem mem_invN {l : List EvD} {j : Nat} {a : OpP} : a ∈ invN l j ↔ ∃ k, k < j ∧ invF l k = some a := by
  unfold invN
  rw [List.mem_filterMap]
  exact ⟨fun ⟨k, hk, h⟩ => ⟨k, by simpa using hk, h⟩, fun ⟨k, hk, h⟩ => ⟨k, by simpa using hk, h⟩⟩
theorem invF_some {l : List EvD} {k : Nat} {a : OpP} (h : invF l k = some a) : ∃ e, l[k]? = some e ∧ e.ret = false ∧ e.op = a ∧ whenP l a false = k := by
  unfold invF at h
  split at h
  · rename_i e he
    split at h
    · rename_i hc
      obtain rfl := Option.some.inj h
      exact ⟨e, he, hc.1, rfl, hc.2⟩
    · simp at h
  · simp at h
/-- an invocation is the first of its operation just if the operation is not among those before -/
theorem inv_seen {l : List EvD} {j : Nat} {e : EvD} (hj : l[j]? = some e) (hr : e.ret = false) : whenP l e.op false = j ↔ e.op ∉ invN l j := by
  have hself : e.is e.op false := by have := e.is_self; rwa [hr] at this
  rcases when_spec l e.op false with ⟨_, hn⟩ | ⟨i, f, hi, hf, hw, hm⟩
  · exact absurd hself (hn j e hj)
  · have hij : i ≤ j := Nat.le_of_not_lt fun h => hm j e h hj hself
    rw [hw]
    constructor
    · intro h hmem
      have hij : i = j := by omega
      subst hij
      obtain ⟨k, hk, hx⟩ := mem_invN.1 hmem
      obtain ⟨x, hx1, hx2, hx3, _⟩ := invF_some hx
      exact hm k x hk hx1 ⟨congrArg Prod.fst hx3, congrArg Prod.snd hx3, hx2⟩
    · intro h
      by_cases hlt : i < j
      · exfalso
        refine h (mem_invN.2 ⟨i, hlt, ?_⟩)
        unfold invF
        rw [hi]
        simp only
        rw [if_pos ⟨hf.2.2, by rw [hf.is_op]; exact hw⟩, hf.is_op]
      · omega
theorem hoper_any (w : World) (th ix : Int) (rt : Bool) (a : Int) (f : Bool) (v : Int) (k : ByteArray) (c r x : Int) (y : Bool) :
    Calls Tryz.prog 32 #[.agg #[.int .i64 th, .int .i64 ix, .bool rt, .int .i64 a, .bool f, .int .u64 v, .string k, .int .i64 c, .int .i64 r, .int .i64 x, .bool y]] w fun e w' => e = .returned (.agg #[.int .i64 th, .int .i64 ix]) ∧ Below w.heap.size w w' := by
  go_enter Tryz.func32, Tryz.ntmps32
  go_wp2_with fail
  refine bodyPost_ret (v := .agg #[.int .i64 th, .int .i64 ix]) (by simp [results, Tryz.results32, go_sem]) rfl ⟨rfl, ?_⟩
  first | exact balZ (balZ (Below.refl _ _) _) _ | (repeat (refine below_set ?_ (by simp))); exact balZ (balZ (Below.refl _ _) _) _
def HiRel (w : World) (l : List EvD) (v i : Value) (wr : World) : Prop :=
  ∃ j : Nat, j ≤ l.length ∧ i = .int .i64 j ∧ wr.ownsRow (w.heap.size + 1) 37 2 v (invN l j).length ((invN l j).flatMap opC2) ∧ SetW wr w.heap.size (invN l j) ∧ Below w.heap.size w wr
set_option maxRecDepth 100000 in
set_option maxHeartbeats 4000000 in
theorem hinvoked_any (w : World) (A : Option Addr) (c : Nat) (l : List EvD) (fe : EvsFit l) (h : EvsAt w A l) :
    Calls Tryz.prog 13 #[.slice A l.length c] w (OrdPost w (invokedP l)) := by
  have H := Lib.hid h
  have FE := Lib.hid fe
  have hl := fe.len
  clear h fe
  have hmm := make_map78
  have M0 : Hid (SetW (w.alloc (.map #[] 0)) w.heap.size []) := MapW.made w opV Value.bool OpFit
  have B0 := Lib.hid (balZ (Below.refl w.heap.size w) (.map #[] 0))
  go_enter Tryz.func13, Tryz.ntmps13
  go_wp2_with fail
  clear hmm
  go_loopw [4, 11] (fun v i wr => HiRel w l v i wr) (fun _ i _ => l.length - (intOf i).toNat)
  case atStart => exact ⟨0, by omega, rfl, World.ownsRow_nil _ _ _ _, M0.out, B0.out⟩
  case round =>
    obtain ⟨j, hj, rfl, hown, hset, hbw⟩ := hrel
    have HO := Lib.hid hown
    have ST := Lib.hid hset
    have HB := Lib.hid hbw
    have hsz : w.heap.size < wr.heap.size := MapW.lt hset
    have hln := invN_len l j
    clear hown hset hbw
    by_cases hlt : j < l.length
    · obtain ⟨e, hx⟩ : ∃ e, l[j]? = some e := ⟨_, List.getElem?_eq_getElem hlt⟩
      obtain ⟨b, off, rfl, hb, hc⟩ := (H.out.below HB.out) (by omega)
      have hmem := List.mem_of_getElem? hx
      have FO : Hid (OpFit e.op) := ⟨FE.out.thread e hmem, FE.out.index e hmem⟩
      obtain ⟨e0, e1, e2⟩ := ev_cells (hc j e hx)
      obtain ⟨g0, g1, g2, g3, g4, g5, g6, g7⟩ := ev_res (hc j e hx)
      have hj0 : (0 : Int) ≤ j := by omega
      have hj1 : (j : Int) < l.length := by omega
      have NX := Lib.hid (invN_succ l j)
      have SE := Lib.hid (fun hr => inv_seen (l := l) (j := j) (e := e) hx hr)
      have IF := Lib.hid (show invF l j = if e.ret = false ∧ whenP l e.op false = j then some e.op else none by unfold invF; rw [hx])
      clear hx hc hmem
      obtain ⟨th, ix, rt, rs⟩ := e
      simp only at e0 e1 e2 g0 g1 g2 g3 g4 g5 g6 g7
      go_upto_region 6 with fail
      obtain ⟨W1, hW1⟩ : ∃ W1, W1 = wr.alloc (.cells #[.int .i64 th, .int .i64 ix, .bool rt, .int .i64 rs.err, .bool rs.found, .int .u64 rs.value, .string rs.key, .int .i64 rs.count, .int .i64 rs.ref, .int .i64 rs.root, .bool rs.ro] 47) := ⟨_, rfl⟩
      have B1 : Hid (Below wr.heap.size wr W1) := by rw [hW1]; exact balZ (Below.refl _ _) _
      have KV : Hid (W1.heap[wr.heap.size]? = some (.cells #[.int .i64 th, .int .i64 ix, .bool rt, .int .i64 rs.err, .bool rs.found, .int .u64 rs.value, .string rs.key, .int .i64 rs.count, .int .i64 rs.ref, .int .i64 rs.root, .bool rs.ro] 47 (0, 0))) := by rw [hW1]; exact (heap_alloc wr _).1
      rw [← hW1]
      clear hW1 e0 e1 e2 g0 g1 g2 g3 g4 g5 g6 g7
      obtain ⟨y0, y1, y2, y3, y4, y5, y6, y7, y8, y9, y10⟩ := ev_box KV.out
      go_wp2_with (first | (go_at_call 32; refine stopAt ?_))
      unfold StopAt
      refine (hoper_any W1 th ix rt rs.err rs.found rs.value rs.key rs.count rs.ref rs.root rs.ro).mono ?_
      rintro e w1 ⟨rfl, hb1⟩
      have B2 := Lib.hid (B1.out.trans (hb1.mono B1.out.size))
      have KV1 := Lib.hid (kept_block KV.out hb1)
      have hevl : wr.heap.size < w1.heap.size := (Array.getElem?_eq_some_iff.1 KV1.out).1
      clear hb1 y0 y1 y2 y3 y4 y5 y6 y7 y8 y9 y10
      go_upto_region 7 with fail
      obtain ⟨W2, hW2⟩ : ∃ W2, W2 = w1.alloc (.cells #[.int .i64 th, .int .i64 ix] 37) := ⟨_, rfl⟩
      have B3 : Hid (Below wr.heap.size wr W2) := by rw [hW2]; exact B2.out.alloc B2.out.size _
      have B3b : Hid (Below w1.heap.size w1 W2) := by rw [hW2]; exact balZ (Below.refl _ _) _
      have KA : Hid (W2.heap[w1.heap.size]? = some (opBox (th, ix))) := by rw [hW2]; exact (heap_alloc w1 _).1
      have KV2 := Lib.hid (kept_block KV1.out B3b.out)
      rw [← hW2]
      clear hW2
      have hbox : w1.heap.size < W2.heap.size := (Array.getElem?_eq_some_iff.1 KA.out).1
      have BW := Lib.hid (HB.out.trans (B3.out.mono HB.out.size))
      have ST2 := Lib.hid (ST.out.keep B3.out)
      have HO2 := Lib.hid (row_keep HO.out (fun g hg => B3.out.block g (row_lt HO.out hg)))
      have hrow := Lib.hid (fun g (hg : u4.ownBlock = some g) => row_lt HO.out hg)
      obtain ⟨x0, x1⟩ := opBox_cells KA.out
      simp only at x0 x1
      obtain ⟨_, _, y2, _⟩ := ev_box KV2.out
      generalize hbx : w1.heap.size = bx at *
      clear hbx
      cases rt with
      | true =>
        have RR : Hid (∀ W, Below W2.heap.size W2 W → HiRel w l u4 (.int .i64 ((j : Int) + 1)) W) := fun W hW => by
          refine ⟨j + 1, by omega, by go_num, ?_, ?_, BW.out.trans (hW.mono BW.out.size)⟩
          all_goals rw [NX.out, IF.out, if_neg (by simp)]; simp only [Option.toList_none, List.append_nil]
          · exact row_keep HO2.out (fun g hg => hW.block g (row_lt HO2.out hg))
          · exact ST2.out.keep hW
        have R0 := Lib.hid (RR.out W2 (Below.refl _ _))
        go_wp2_with fail
        go_roundw
        case rel => exact R0.out
        case measure => simp [intOf]; omega
      | false =>
        have LK := ST2.out.look (th, ix) FO.out
        simp only at LK
        by_cases hm : (th, ix) ∈ invN l j
        · rw [decide_eq_true hm] at LK
          have RR : Hid (HiRel w l u4 (.int .i64 ((j : Int) + 1)) W2) := by
            refine ⟨j + 1, by omega, by go_num, ?_, ?_, BW.out⟩
            all_goals rw [NX.out, IF.out, if_neg (fun h => (SE.out rfl).1 h.2 hm)]; simp only [Option.toList_none, List.append_nil]
            · exact HO2.out
            · exact ST2.out
          clear hm
          go_wp2_with fail
          go_roundw
          case rel => exact RR.out
          case measure => simp [intOf]; omega
        · rw [decide_eq_false hm] at LK
          obtain ⟨w6, hrun, hs6, ht6⟩ := ST2.out.add (th, ix) FO.out hm
          simp only at hrun
          have NY : Hid (invN l (j + 1) = invN l j ++ [(th, ix)]) := by
            rw [NX.out, IF.out, if_pos ⟨rfl, (SE.out rfl).2 hm⟩]; rfl
          have S6 := Lib.hid hs6
          have T6 := Lib.hid ht6
          have BW6 := Lib.hid (turned_belowZ BW.out ht6 (Nat.le_refl _))
          have KA6 : Hid (w6.heap[bx]? = some (opBox (th, ix))) := (ht6.block bx (by omega)).trans KA.out
          have HO6 := Lib.hid (row_keep HO2.out (fun g hg => ht6.block g (by have := (row_kind HO2.out hg).1; omega)))
          have hz6 : w.heap.size + 1 < w6.heap.size := by rw [ht6.size]; omega
          clear hm hs6 ht6
          obtain ⟨z0, z1⟩ := opBox_cells KA6.out
          simp only at z0 z1
          go_wp2_with (at_builtin; refine stopAt ?_)
          unfold StopAt
          refine wpList_app 25 37 Tryz.underlying25 _ 2 16 opInfo rfl (by decide) rfl _ _ rfl (w.heap.size + 1) _ u4 _ _ rfl (HO6.out.alloc _) ⟨w6.heap.size, 0, none⟩ 1 1 (opC2 (th, ix)) rfl rfl ?_ ?_ ?_ ?_ ?_ ?_
          · exact opC2_box (heap_alloc w6 _).1
          · intro u hu
            simp only [opC2, List.mem_cons, List.not_mem_nil, or_false] at hu
            rcases hu with rfl | rfl <;> rfl
          · simp; omega
          · unfold maxLen; omega
          · omega
          intro a3 c3 w3 ho3 hg3
          have RR : Hid (HiRel w l (.slice a3 ((invN l j).length + 1) c3) (.int .i64 ((j : Int) + 1)) w3) := by
            refine ⟨j + 1, by omega, by go_num, ?_, ?_, ?_⟩
            · rw [NY.out, List.length_append, List.flatMap_append]; exact ho3
            · rw [NY.out]
              have h6 := MapW.lt S6.out
              refine MapW.of_block S6.out ?_
              exact grown_block hg3 h6 (fun e => by have := (row_kind HO6.out e).1; omega)
            · exact BW6.out.trans (grown_below hg3 (by omega) (fun k hk => by have := (row_kind HO6.out hk).1; omega))
          clear ho3 hg3
          go_wp2_with fail
          go_roundw
          case rel => exact RR.out
          case measure => simp [intOf]; omega
    · have hje : j = l.length := by omega
      have TT := Lib.hid hje
      obtain ⟨A2, c2, hv⟩ := row_form HO.out
      clear hje
      go_wp2_with fail
      go_ret
      subst hv
      have e : invN l j = invokedP l := by rw [TT.out, inv_all]
      rw [e] at HO
      exact ⟨A2, c2, by show Ending.returned (Value.slice A2 _ c2) = _; rw [e], ordAt_of_row HO.out rfl, HB.out⟩
end Go.Proofs.YtbmoehndnbbhcaaGreatDoor
namespace Go.Proofs.YtbmoehndnbbhcaaGreatDoor
set_option linter.unusedVariables false
set_option linter.unusedSimpArgs false
open Go Go.RowKit Go.MapKept Go.WideMaps Go.WideShapes
theorem run_op2 (w : World) {a b : OpP} (ha : OpFit a) (hb : OpFit b) : (Op.equal 37 (.agg #[.int .i64 a.1, .int .i64 a.2]) (.agg #[.int .i64 b.1, .int .i64 b.2])).run Tryz.prog w = .ok (decide (a = b)) w := by
  obtain ⟨la, h1⟩ := opKey.lit a ha
  obtain ⟨lb, h2⟩ := opKey.lit b hb
  unfold opV at h1 h2
  obtain ⟨q, hq, hi⟩ := run_equal_deep w (m := Tryz.prog.types.size + 1) (of_decide_eq_true (by kernel_rfl)) (k := 37) (by kernel_rfl) (by kernel_rfl) h1 h2
  rw [hq]
  have : q = decide (a = b) := by
    rw [Bool.eq_iff_iff, hi, decide_eq_true_eq]
    exact ⟨fun e => opKey.inj _ _ (opKey.law.inj h1 (e ▸ h2)), fun e => by subst e; rw [h1] at h2; exact Option.some.inj h2⟩
  rw [this]
theorem op2_guard : Tryz.prog.eqGuardType Tryz.prog.depth 37 = false := by kernel_rfl
theorem run_guard2 (op : BinOp) (w : World) (x y : Operand) (u v : Array Value) : (eqGuard op 37 x y (.agg u) (.agg v)).run Tryz.prog w = .ok () w := by
  cases op <;> simp [eqGuard, go_sem, op2_guard]
theorem quiet_op2 {o : Oper} {a : Act} {C : World → Prop} {W : World} {x y : OpP} (p q : Operand) (ho : o.op = .binOp .eql 37 p q 37) (hp : a.eval p = .agg #[.int .i64 x.1, .int .i64 x.2]) (hq : a.eval q = .agg #[.int .i64 y.1, .int .i64 y.2]) (hx : OpFit x) (hy : OpFit y) : o.quietAt Tryz.prog a C W (.bool (decide (x = y))) := by
  unfold Oper.quietAt execOp
  simp only [ho, hp, hq, run_guard2, binOp, Sem.run_bind, Sem.run_pure, Result.andThen_ok, run_op2 W hx hy]
  exact ⟨rfl, rfl⟩
def HasRel (w : World) (l : List OpP) (a : OpP) (n i : Value) (wr : World) : Prop :=
  ∃ j : Nat, j ≤ l.length ∧ i = .int .i64 j ∧ n = .int .i64 ((l.take j).count a : Nat) ∧ wr.heap[w.heap.size]? = some (opBox a) ∧ Below w.heap.size w wr
theorem count_snoc {l : List OpP} {j : Nat} {x : OpP} (h : l[j]? = some x) (a : OpP) : (l.take (j + 1)).count a = (l.take j).count a + if x = a then 1 else 0 := by
  rw [List.take_add_one, h, List.count_append]
  by_cases hx : x = a
  · simp [hx]
  · simp [hx, List.count_singleton]
set_option maxRecDepth 100000 in
set_option maxHeartbeats 1000000 in
theorem rhas_any (w : World) (A : Option Addr) (c : Nat) (l : List OpP) (hl : l.length ≤ 1048576) (h : OrdAt w A l) (hf : OrdFit l) (a0 a1 : Int) (ha : OpFit (a0, a1)) :
    Calls Tryz.prog 48 #[.slice A l.length c, .agg #[.int .i64 a0, .int .i64 a1]] w fun e w' => e = .returned (.int .i64 (l.count (a0, a1) : Nat)) ∧ Below w.heap.size w w' := by
  have H := Lib.hid h
  have HF := Lib.hid hf
  have HA := Lib.hid ha
  clear h hf ha
  go_enter Tryz.func48, Tryz.ntmps48
  go_wp2_with fail
  have B0 : Hid (Below w.heap.size w (w.alloc (.cells #[.int .i64 a0, .int .i64 a1] 37))) := balZ (Below.refl _ _) _
  have K0 : Hid ((w.alloc (.cells #[.int .i64 a0, .int .i64 a1] 37)).heap[w.heap.size]? = some (opBox (a0, a1))) := (heap_alloc w _).1
  go_loopw [5, 6] (fun n i wr => HasRel w l (a0, a1) n i wr) (fun _ i _ => l.length - (intOf i).toNat)
  case atStart => exact ⟨0, by omega, rfl, rfl, K0.out, B0.out⟩
  case round =>
    obtain ⟨j, hj, rfl, rfl, hk, hb⟩ := hrel
    have KB := Lib.hid hk
    have BR := Lib.hid hb
    clear hk hb
    have hcl : (l.take j).count (a0, a1) ≤ j := Nat.le_trans List.count_le_length (by rw [List.length_take]; omega)
    by_cases hlt : j < l.length
    · obtain ⟨x, hx⟩ : ∃ x, l[j]? = some x := ⟨_, List.getElem?_eq_getElem hlt⟩
      obtain ⟨b, off, rfl, hb, hc⟩ := H.out (by omega)
      obtain ⟨c0, c1⟩ := hc j x hx
      have z0 := (BR.out.cell (p := ⟨b, _, none⟩) hb).trans c0
      have z1 := (BR.out.cell (p := ⟨b, _, none⟩) hb).trans c1
      obtain ⟨y0, y1⟩ := opBox_cells KB.out
      simp only at y0 y1
      have CS := Lib.hid (count_snoc hx (a0, a1))
      have XF := Lib.hid (HF.out x (List.mem_of_getElem? hx))
      have hj0 : (0 : Int) ≤ j := by omega
      have hj1 : (j : Int) < l.length := by omega
      clear hc c0 c1 hx
      obtain ⟨x0, x1⟩ := x
      simp only at z0 z1
      have NX : Hid (∀ (W : World) (n : Nat), Below wr.heap.size wr W → (l.take (j + 1)).count (a0, a1) = n → HasRel w l (a0, a1) (.int .i64 n) (.int .i64 ((j : Int) + 1)) W) := fun W n hW hn =>
        ⟨j + 1, by omega, by go_num, by rw [hn], kept_block KB.out hW, BR.out.trans (hW.mono BR.out.size)⟩
      go_wp2_with fail
      refine wp_region_quiet_lit (by kernel_rfl) (by kernel_rfl) ?_
      repeat go_big_quiet_step (fail)
      refine' wpQuiet_take (by kernel_rfl) (fun W _ => quiet_op2 (x := (x0, x1)) (y := (a0, a1)) _ _ rfl rfl rfl XF.out HA.out) ?_
      simp only [Act.put, List.setIfInBounds_toArray, List.set_cons_zero, List.set_cons_succ]
      refine wpQuiet_nil ?_
      intro W2 hw'
      obtain ⟨nq, hw''⟩ := hw'
      subst hw''
      by_cases he : (x0, x1) = (a0, a1)
      · rw [decide_eq_true he]
        rw [if_pos he] at CS
        clear he
        go_wp2_with fail
        go_roundw
        case rel => exact NX.out _ _ (below_drewN (Below.refl _ _) nq) CS.out
        case measure => simp [intOf]; omega
      · rw [decide_eq_false he]
        rw [if_neg he] at CS
        clear he
        go_wp2_with fail
        go_roundw
        case rel => exact NX.out _ _ (below_drewN (Below.refl _ _) nq) CS.out
        case measure => simp [intOf]; omega
    · have hje : j = l.length := by omega
      subst hje
      rw [List.take_length]
      go_wp2_with fail
      go_ret
      exact ⟨rfl, BR.out⟩
def ExcRel (w : World) (ts : List (List OpD)) (l : List EvD) (i : Value) (wr : World) : Prop :=
  ∃ j : Nat, j ≤ (invokedP l).length ∧ i = .int .i64 j ∧ (∀ (k : Nat) (a : OpP), k < j → (invokedP l)[k]? = some a → (!refusedP l a || justP ts l a) = true) ∧ Below w.heap.size w wr
theorem exc_all {ts : List (List OpD)} {l : List EvD} (h : ∀ (k : Nat) (a : OpP), k < (invokedP l).length → (invokedP l)[k]? = some a → (!refusedP l a || justP ts l a) = true) : excusedP ts l = true := by
  unfold excusedP
  rw [List.all_eq_true]
  intro a ha
  obtain ⟨k, hk, e⟩ := List.getElem_of_mem ha
  exact h k a hk (by rw [List.getElem?_eq_getElem hk, e])
theorem inv_len_le (l : List EvD) : (invokedP l).length ≤ l.length := invN_len l l.length
set_option maxRecDepth 100000 in
set_option maxHeartbeats 1000000 in
theorem rexcused_any (w : World) (A B : Option Addr) (c d : Nat) (ts : List (List OpD)) (l : List EvD) (hA : ThrAt w A ts) (hB : EvsAt w B l) (ft : ThrFit ts) (hl : l.length ≤ 1048576) (hp : ProperP (lens ts) l) :
    Calls Tryz.prog 25 #[.slice A ts.length c, .slice B l.length d] w fun e w' => e = .returned (.bool (excusedP ts l)) ∧ Below w.heap.size w w' := by
  have HA := Lib.hid hA
  have HB := Lib.hid hB
  have FT := Lib.hid ft
  have HP := Lib.hid hp
  have hil := inv_len_le l
  clear hA hB ft hp
  go_enter Tryz.func25, Tryz.ntmps25
  go_wp2_with (first | (go_at_call 8; refine stopAt ?_))
  unfold StopAt
  refine (rinvoked_any w B d l hl HB.out).mono ?_
  rintro e w1 ⟨V, cv, rfl, hv, hb1⟩
  have HV := Lib.hid hv
  have B1 := Lib.hid hb1
  clear hv hb1
  go_wp2_with fail
  go_loopw [10] (fun i wr => ExcRel w1 ts l i wr) (fun i _ => (invokedP l).length - (intOf i).toNat)
  case atStart => exact ⟨0, by omega, rfl, fun k a hk => by omega, Below.refl _ _⟩
  case round =>
    obtain ⟨j, hj, rfl, hall, hb⟩ := hrel
    have AL := Lib.hid hall
    have BR := Lib.hid hb
    clear hall hb
    by_cases hlt : j < (invokedP l).length
    · obtain ⟨a, ha⟩ : ∃ a, (invokedP l)[j]? = some a := ⟨_, List.getElem?_eq_getElem hlt⟩
      obtain ⟨b, off, rfl, hbz, hc⟩ := HV.out (by omega)
      obtain ⟨c0, c1⟩ := hc j a ha
      have z0 := (BR.out.cell (p := ⟨b, _, none⟩) hbz).trans c0
      have z1 := (BR.out.cell (p := ⟨b, _, none⟩) hbz).trans c1
      have hj0 : (0 : Int) ≤ j := by omega
      have hj1 : (j : Int) < (invokedP l).length := by omega
      have HI := Lib.hid (mem_invoked.1 (List.mem_of_getElem? ha))
      obtain ⟨t, i, tt, o, rfl, ht, ho, _⟩ := exP_get (HP.out.ex HI.out)
      have HT := Lib.hid (And.intro ht ho)
      have HX := Lib.hid ha
      clear hc c0 c1 ha ht ho
      simp only at z0 z1
      go_upto_region 4 with fail
      obtain ⟨W1, hW1⟩ : ∃ W1, W1 = wr.alloc (.cells #[.int .i64 t, .int .i64 i] 37) := ⟨_, rfl⟩
      have B2 : Hid (Below wr.heap.size wr W1) := by rw [hW1]; exact balZ (Below.refl _ _) _
      have KA : Hid (W1.heap[wr.heap.size]? = some (opBox ((t : Int), (i : Int)))) := by rw [hW1]; exact (heap_alloc wr _).1
      have BW1 := Lib.hid (BR.out.trans (B2.out.mono BR.out.size))
      rw [← hW1]
      clear hW1 z0 z1
      have BT := Lib.hid (B1.out.trans (BW1.out.mono B1.out.size))
      have NX : Hid (∀ W, Below w1.heap.size w1 W → (!refusedP l ((t : Int), (i : Int)) || justP ts l ((t : Int), (i : Int))) = true → ExcRel w1 ts l (.int .i64 ((j : Int) + 1)) W) := fun W hW hh =>
        ⟨j + 1, by omega, by go_num, fun k x hk hx => by
          by_cases hkj : k = j
          · subst hkj
            rw [HX.out] at hx
            obtain rfl := Option.some.inj hx
            exact hh
          · exact AL.out k x (by omega) hx, hW⟩
      obtain ⟨y0, y1⟩ := opBox_cells KA.out
      simp only at y0 y1
      go_wp2_with (first | (go_at_call 46; refine stopAt ?_))
      unfold StopAt
      refine (rrefused_any W1 B d l hl (HB.out.below BT.out) t i).mono ?_
      rintro e w2 ⟨rfl, hb2⟩
      have BW2 := Lib.hid (BW1.out.trans (hb2.mono BW1.out.size))
      have BT2 := Lib.hid (BT.out.trans (hb2.mono BT.out.size))
      have KA2 := Lib.hid (kept_block KA.out hb2)
      clear hb2 y0 y1
      obtain ⟨y0, y1⟩ := opBox_cells KA2.out
      simp only at y0 y1
      cases hr : refusedP l ((t : Int), (i : Int)) with
      | false =>
        have NY := Lib.hid (NX.out _ BW2.out (by rw [hr]; rfl))
        clear hr
        go_wp2_with fail
        go_roundw
        case rel => exact NY.out
        case measure => simp [intOf]; omega
      | true =>
        have HR := Lib.hid hr
        clear hr
        go_wp2_with (first | (go_at_call 47; refine stopAt ?_))
        unfold StopAt
        refine (rjust_any w2 A B c d ts l (HA.out.below BT2.out) (HB.out.below BT2.out) FT.out hl t i tt o HT.out.1 HT.out.2).mono ?_
        rintro e3 w3 ⟨rfl, hb3⟩
        have BW3 := Lib.hid (BW2.out.trans (hb3.mono BW2.out.size))
        have BT3 := Lib.hid (BT2.out.trans (hb3.mono BT2.out.size))
        clear hb3 y0 y1
        cases hjj : justP ts l ((t : Int), (i : Int)) with
        | true =>
          have NY := Lib.hid (NX.out _ BW3.out (by rw [hjj]; simp))
          clear hjj
          go_wp2_with fail
          go_roundw
          case rel => exact NY.out
          case measure => simp [intOf]; omega
        | false =>
          have R := Lib.hid (exc_bad HP.out HR.out hjj)
          clear hjj
          go_wp2_with fail
          go_ret
          exact ⟨ret_bool R.out.symm, BT3.out⟩
    · have hje : j = (invokedP l).length := by omega
      subst hje
      have R := Lib.hid (exc_all AL.out)
      have BT := Lib.hid (B1.out.trans (BR.out.mono B1.out.size))
      go_wp2_with fail
      go_ret
      exact ⟨ret_bool R.out.symm, BT.out⟩
end Go.Proofs.YtbmoehndnbbhcaaGreatDoor
namespace Go.Proofs.YtbmoehndnbbhcaaGreatDoor
set_option linter.unusedVariables false
set_option linter.unusedSimpArgs false
open Go Go.RowKit Go.MapKept
def okM (l : List EvD) (order : List OpP) (a : OpP) : Bool := decide (a ∈ invokedP l) && decide (order.count a ≤ 1) && !refusedP l a
def okN (l : List EvD) (order : List OpP) (a : OpP) : Bool := !(decide (whenP l a true ≠ -1) && !refusedP l a) || decide (a ∈ order)
theorem members_eq (l : List EvD) (order : List OpP) : membersP l order = (order.all (okM l order) && (invokedP l).all (okN l order)) := rfl
def AllTo (f : OpP → Bool) (L : List OpP) (j : Nat) : Prop := ∀ (k : Nat) (a : OpP), k < j → L[k]? = some a → f a = true
theorem AllTo.all {f : OpP → Bool} {L : List OpP} (h : AllTo f L L.length) : L.all f = true := by
  rw [List.all_eq_true]
  intro a ha
  obtain ⟨k, hk, e⟩ := List.getElem_of_mem ha
  exact h k a hk (by rw [List.getElem?_eq_getElem hk, e])
theorem AllTo.succ {f : OpP → Bool} {L : List OpP} {j : Nat} {x : OpP} (h : AllTo f L j) (hx : L[j]? = some x) (hf : f x = true) : AllTo f L (j + 1) := fun k a hk ha => by
  by_cases hkj : k = j
  · subst hkj
    rw [hx] at ha
    obtain rfl := Option.some.inj ha
    exact hf
  · exact h k a (by omega) ha
theorem all_bad {f : OpP → Bool} {L : List OpP} {j : Nat} {x : OpP} (hx : L[j]? = some x) (hf : f x = false) : L.all f = false := by
  rw [List.all_eq_false]
  exact ⟨x, List.mem_of_getElem? hx, by simp [hf]⟩
def MbRel (w1 : World) (f : OpP → Bool) (L : List OpP) (i : Value) (wr : World) : Prop := ∃ j : Nat, j ≤ L.length ∧ i = .int .i64 j ∧ AllTo f L j ∧ Below w1.heap.size w1 wr
theorem MbRel.next {w1 W : World} {f : OpP → Bool} {L : List OpP} {j : Nat} {x : OpP} (h : AllTo f L j) (hx : L[j]? = some x) (hf : f x = true) (hb : Below w1.heap.size w1 W) : MbRel w1 f L (.int .i64 ((j : Int) + 1)) W :=
  ⟨j + 1, (List.getElem?_eq_some_iff.1 hx).1, by go_num, h.succ hx hf, hb⟩
theorem inv_fit {l : List EvD} (fe : EvsFit l) : OrdFit (invokedP l) := fun a ha => by
  obtain ⟨k, _, h⟩ := mem_invN.1 (show a ∈ invN l l.length from ha)
  obtain ⟨e, he, _, rfl, _⟩ := invF_some h
  have hm := List.mem_of_getElem? he
  exact ⟨fe.thread e hm, fe.index e hm⟩
set_option maxRecDepth 100000 in
set_option maxHeartbeats 2000000 in
theorem rmembers_any (w : World) (B O : Option Addr) (d co : Nat) (l : List EvD) (order : List OpP) (hB : EvsAt w B l) (fe : EvsFit l) (ho : OrdAt w O order) (hf : OrdFit order) (hn : order.length ≤ 1048576) :
    Calls Tryz.prog 26 #[.slice B l.length d, .slice O order.length co] w fun e w' => e = .returned (.bool (membersP l order)) ∧ Below w.heap.size w w' := by
  have HB := Lib.hid hB
  have HO := Lib.hid ho
  have HF := Lib.hid hf
  have FI := Lib.hid (inv_fit fe)
  have hl := fe.len
  have hil := inv_len_le l
  have ME := Lib.hid (members_eq l order)
  clear hB fe ho hf
  go_enter Tryz.func26, Tryz.ntmps26
  go_wp2_with (first | (go_at_call 8; refine stopAt ?_))
  unfold StopAt
  refine (rinvoked_any w B d l hl HB.out).mono ?_
  rintro e w1 ⟨V, cv, rfl, hv, hb1⟩
  have HV := Lib.hid hv
  have B1 := Lib.hid hb1
  clear hv hb1
  go_wp2_with fail
  go_loopw [16] (fun i wr => MbRel w1 (okM l order) order i wr) (fun i _ => order.length - (intOf i).toNat)
  case atStart => exact ⟨0, by omega, rfl, fun k a hk => by omega, Below.refl _ _⟩
  case round =>
    obtain ⟨j, hj, rfl, hall, hb⟩ := hrel
    have AL := Lib.hid hall
    have BR := Lib.hid hb
    clear hall hb
    by_cases hlt : j < order.length
    · obtain ⟨a, ha⟩ : ∃ a, order[j]? = some a := ⟨_, List.getElem?_eq_getElem hlt⟩
      have BQ := Lib.hid (B1.out.trans (BR.out.mono B1.out.size))
      obtain ⟨b, off, rfl, hbz, hc⟩ := HO.out (by omega)
      obtain ⟨c0, c1⟩ := hc j a ha
      have z0 := (BQ.out.cell (p := ⟨b, _, none⟩) hbz).trans c0
      have z1 := (BQ.out.cell (p := ⟨b, _, none⟩) hbz).trans c1
      have hj0 : (0 : Int) ≤ j := by omega
      have hj1 : (j : Int) < order.length := by omega
      have FA := Lib.hid (HF.out a (List.mem_of_getElem? ha))
      have HX := Lib.hid ha
      clear hc c0 c1 ha
      obtain ⟨a0, a1⟩ := a
      simp only at z0 z1
      go_upto_region 5 with fail
      obtain ⟨W1, hW1⟩ : ∃ W1, W1 = wr.alloc (.cells #[.int .i64 a0, .int .i64 a1] 37) := ⟨_, rfl⟩
      have B2 : Hid (Below wr.heap.size wr W1) := by rw [hW1]; exact balZ (Below.refl _ _) _
      have KA : Hid (W1.heap[wr.heap.size]? = some (opBox (a0, a1))) := by rw [hW1]; exact (heap_alloc wr _).1
      have BW1 := Lib.hid (BR.out.trans (B2.out.mono BR.out.size))
      rw [← hW1]
      clear hW1 z0 z1
      have BT := Lib.hid (B1.out.trans (BW1.out.mono B1.out.size))
      obtain ⟨y0, y1⟩ := opBox_cells KA.out
      simp only at y0 y1
      go_wp2_with (first | (go_at_call 48; refine stopAt ?_))
      unfold StopAt
      refine (rhas_any W1 V cv (invokedP l) (by omega) (HV.out.below BW1.out) FI.out a0 a1 FA.out).mono ?_
      rintro e w2 ⟨rfl, hb2⟩
      have BW2 := Lib.hid (BW1.out.trans (hb2.mono BW1.out.size))
      have BT2 := Lib.hid (BT.out.trans (hb2.mono BT.out.size))
      have KA2 := Lib.hid (kept_block KA.out hb2)
      have hc1 : (invokedP l).count (a0, a1) ≤ (invokedP l).length := List.count_le_length
      have CP := Lib.hid (List.count_pos_iff (a := (a0, a1)) (l := invokedP l))
      clear hb2 y0 y1
      generalize hcn : (invokedP l).count (a0, a1) = cn at *
      clear hcn
      by_cases h0 : cn = 0
      · have R : Hid (membersP l order = false) := by
          rw [ME.out, all_bad HX.out (by unfold okM; rw [decide_eq_false (fun h => by have := CP.out.2 h; omega)]; rfl)]; rfl
        subst h0
        go_wp2_with fail
        go_ret
        exact ⟨ret_bool R.out.symm, BT2.out⟩
      have hm := Lib.hid (CP.out.1 (by omega))
      have h0b : ((cn : Int) == 0) = false := by simpa using h0
      obtain ⟨y0, y1⟩ := opBox_cells KA2.out
      simp only at y0 y1
      go_wp2_with (first | (go_at_call 48; refine stopAt ?_))
      unfold StopAt
      refine (rhas_any w2 _ co order hn (HO.out.below BT2.out) HF.out a0 a1 FA.out).mono ?_
      rintro e w3 ⟨rfl, hb3⟩
      have BW3 := Lib.hid (BW2.out.trans (hb3.mono BW2.out.size))
      have BT3 := Lib.hid (BT2.out.trans (hb3.mono BT2.out.size))
      have KA3 := Lib.hid (kept_block KA2.out hb3)
      have hc2 : order.count (a0, a1) ≤ order.length := List.count_le_length
      clear hb3 y0 y1 h0b CP
      have CQ := Lib.hid (show order.count (a0, a1) = order.count (a0, a1) from rfl)
      generalize hcm : order.count (a0, a1) = cm at *
      have CM := Lib.hid hcm
      clear hcm CQ
      by_cases h2 : 1 < cm
      · have R : Hid (membersP l order = false) := by
          rw [ME.out, all_bad HX.out (by unfold okM; rw [CM.out, decide_eq_false (show ¬ cm ≤ 1 by omega)]; simp)]; rfl
        go_wp2_with fail
        go_ret
        exact ⟨ret_bool R.out.symm, BT3.out⟩
      have h2b : decide (1 < cm) = false := by simpa using h2
      obtain ⟨y0, y1⟩ := opBox_cells KA3.out
      simp only at y0 y1
      go_wp2_with (first | (go_at_call 46; refine stopAt ?_))
      unfold StopAt
      refine (rrefused_any w3 B d l hl (HB.out.below BT3.out) a0 a1).mono ?_
      rintro e w4 ⟨rfl, hb4⟩
      have BW4 := Lib.hid (BW3.out.trans (hb4.mono BW3.out.size))
      have BT4 := Lib.hid (BT3.out.trans (hb4.mono BT3.out.size))
      clear hb4 y0 y1 h2b
      cases hr : refusedP l (a0, a1) with
      | true =>
        have R : Hid (membersP l order = false) := by
          rw [ME.out, all_bad HX.out (by unfold okM; rw [hr]; simp)]; rfl
        clear hr
        go_wp2_with fail
        go_ret
        exact ⟨ret_bool R.out.symm, BT4.out⟩
      | false =>
        have NY : Hid (MbRel w1 (okM l order) order (.int .i64 ((j : Int) + 1)) w4) := MbRel.next AL.out HX.out (by unfold okM; rw [hr, CM.out, decide_eq_true hm.out, decide_eq_true (show cm ≤ 1 by omega)]; rfl) BW4.out
        clear hr
        go_wp2_with fail
        go_roundw
        case rel => exact NY.out
        case measure => simp [intOf]; omega
    · have hje : j = order.length := by omega
      subst hje
      have A1 := Lib.hid (AL.out.all)
      go_wp2_with fail
      go_loopw [38] (fun i wr => MbRel w1 (okN l order) (invokedP l) i wr) (fun i _ => (invokedP l).length - (intOf i).toNat)
      case atStart => exact ⟨0, by omega, rfl, fun k a hk => by omega, BR.out⟩
      case round =>
        obtain ⟨j, hj, rfl, hall, hb⟩ := hrel
        have AL2 := Lib.hid hall
        have BS := Lib.hid hb
        clear hall hb
        by_cases hlt : j < (invokedP l).length
        · obtain ⟨a, ha⟩ : ∃ a, (invokedP l)[j]? = some a := ⟨_, List.getElem?_eq_getElem hlt⟩
          obtain ⟨b, off, rfl, hbz, hc⟩ := HV.out (by omega)
          obtain ⟨c0, c1⟩ := hc j a ha
          have z0 := (BS.out.cell (p := ⟨b, _, none⟩) hbz).trans c0
          have z1 := (BS.out.cell (p := ⟨b, _, none⟩) hbz).trans c1
          have hj0 : (0 : Int) ≤ j := by omega
          have hj1 : (j : Int) < (invokedP l).length := by omega
          have FA := Lib.hid (FI.out a (List.mem_of_getElem? ha))
          have HX := Lib.hid ha
          clear hc c0 c1 ha
          obtain ⟨a0, a1⟩ := a
          simp only at z0 z1
          go_upto_region 11 with fail
          obtain ⟨W1, hW1⟩ : ∃ W1, W1 = wr.alloc (.cells #[.int .i64 a0, .int .i64 a1] 37) := ⟨_, rfl⟩
          have B2 : Hid (Below wr.heap.size wr W1) := by rw [hW1]; exact balZ (Below.refl _ _) _
          have KA : Hid (W1.heap[wr.heap.size]? = some (opBox (a0, a1))) := by rw [hW1]; exact (heap_alloc wr _).1
          have BW1 := Lib.hid (BS.out.trans (B2.out.mono BS.out.size))
          rw [← hW1]
          clear hW1 z0 z1
          have BT := Lib.hid (B1.out.trans (BW1.out.mono B1.out.size))
          obtain ⟨y0, y1⟩ := opBox_cells KA.out
          simp only at y0 y1
          cases hr : resultP l (a0, a1) with
          | none =>
            have OK := Lib.hid (show okN l order (a0, a1) = true by unfold okN; rw [result_none.1 hr]; simp)
            have HR := Lib.hid hr
            clear hr
            go_wp2_with (first | (go_at_call 30; refine stopAt ?_))
            unfold StopAt
            refine (rresult_none W1 B d l hl (HB.out.below BT.out) a0 a1 HR.out).mono ?_
            rintro e w2 ⟨rfl, hb2⟩
            have BW2 := Lib.hid (BW1.out.trans (hb2.mono BW1.out.size))
            have BW3 := Lib.hid (BW2.out.alloc BW2.out.size (.cells #[.int .i64 0, .bool false, .int .u64 0, .string ⟨#[]⟩, .int .i64 0, .int .i64 0, .int .i64 0, .bool false] 45))
            clear hb2 y0 y1
            have NY := Lib.hid (MbRel.next AL2.out HX.out OK.out BW3.out)
            go_wp2_with fail
            go_roundw
            case rel => exact NY.out
            case measure => simp [intOf]; omega
          | some r =>
            have HR := Lib.hid hr
            have HW : Hid (whenP l (a0, a1) true ≠ -1) := fun h => by rw [result_none.2 h] at hr; simp at hr
            clear hr
            go_wp2_with (first | (go_at_call 30; refine stopAt ?_))
            unfold StopAt
            refine (rresult_some W1 B d l hl (HB.out.below BT.out) a0 a1 r HR.out).mono ?_
            rintro e w2 ⟨rfl, hb2⟩
            have BW2 := Lib.hid (BW1.out.trans (hb2.mono BW1.out.size))
            have KA2 := Lib.hid (kept_block KA.out hb2)
            clear hb2 y0 y1
            go_upto_region 12 with fail
            obtain ⟨W3, hW3⟩ : ∃ W3, W3 = w2.alloc (.cells #[.int .i64 r.err, .bool r.found, .int .u64 r.value, .string r.key, .int .i64 r.count, .int .i64 r.ref, .int .i64 r.root, .bool r.ro] 45) := ⟨_, rfl⟩
            have B3 : Hid (Below w2.heap.size w2 W3) := by rw [hW3]; exact balZ (Below.refl _ _) _
            have BW3 := Lib.hid (BW2.out.trans (B3.out.mono BW2.out.size))
            have BT3 := Lib.hid (B1.out.trans (BW3.out.mono B1.out.size))
            have KA3 := Lib.hid (kept_block KA2.out B3.out)
            rw [← hW3]
            clear hW3
            obtain ⟨y0, y1⟩ := opBox_cells KA3.out
            simp only at y0 y1
            go_wp2_with (first | (go_at_call 46; refine stopAt ?_))
            unfold StopAt
            refine (rrefused_any W3 B d l hl (HB.out.below BT3.out) a0 a1).mono ?_
            rintro e w4 ⟨rfl, hb4⟩
            have BW4 := Lib.hid (BW3.out.trans (hb4.mono BW3.out.size))
            have BT4 := Lib.hid (BT3.out.trans (hb4.mono BT3.out.size))
            have KA4 := Lib.hid (kept_block KA3.out hb4)
            clear hb4 y0 y1
            cases hf2 : refusedP l (a0, a1) with
            | true =>
              have NY : Hid (MbRel w1 (okN l order) (invokedP l) (.int .i64 ((j : Int) + 1)) w4) := MbRel.next AL2.out HX.out (by unfold okN; rw [hf2]; simp) BW4.out
              clear hf2
              go_wp2_with fail
              go_roundw
              case rel => exact NY.out
              case measure => simp [intOf]; omega
            | false =>
              have HF2 := Lib.hid hf2
              clear hf2
              obtain ⟨y0, y1⟩ := opBox_cells KA4.out
              simp only at y0 y1
              go_wp2_with (first | (go_at_call 48; refine stopAt ?_))
              unfold StopAt
              refine (rhas_any w4 O co order hn (HO.out.below BT4.out) HF.out a0 a1 FA.out).mono ?_
              rintro e w5 ⟨rfl, hb5⟩
              have BW5 := Lib.hid (BW4.out.trans (hb5.mono BW4.out.size))
              have BT5 := Lib.hid (BT4.out.trans (hb5.mono BT4.out.size))
              have CP := Lib.hid (List.count_pos_iff (a := (a0, a1)) (l := order))
              have hc2 : order.count (a0, a1) ≤ order.length := List.count_le_length
              clear hb5 y0 y1
              generalize hcm : order.count (a0, a1) = cm at *
              clear hcm
              by_cases h0 : cm = 0
              · have R : Hid (membersP l order = false) := by
                  rw [ME.out, all_bad (f := okN l order) HX.out (by unfold okN; rw [HF2.out, decide_eq_true HW.out, decide_eq_false (fun h => by have := CP.out.2 h; omega)]; rfl), Bool.and_false]; exact Lib.hid rfl
                subst h0
                go_wp2_with fail
                go_ret
                exact ⟨ret_bool R.out.symm, BT5.out⟩
              · have h0b : ((cm : Int) == 0) = false := by simpa using h0
                have NY : Hid (MbRel w1 (okN l order) (invokedP l) (.int .i64 ((j : Int) + 1)) w5) := MbRel.next AL2.out HX.out (by unfold okN; rw [decide_eq_true (CP.out.1 (by omega))]; simp) BW5.out
                go_wp2_with fail
                go_roundw
                case rel => exact NY.out
                case measure => simp [intOf]; omega
        · have hje : j = (invokedP l).length := by omega
          subst hje
          have R : Hid (membersP l order = true) := by rw [ME.out, A1.out, AL2.out.all]; rfl
          have BT := Lib.hid (B1.out.trans (BS.out.mono B1.out.size))
          go_wp2_with fail
          go_ret
          exact ⟨ret_bool R.out.symm, BT.out⟩
end Go.Proofs.YtbmoehndnbbhcaaGreatDoor
