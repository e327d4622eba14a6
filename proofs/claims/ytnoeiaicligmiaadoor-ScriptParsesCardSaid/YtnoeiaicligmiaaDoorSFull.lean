/- AppendUint onto a slice without room (the row of a constant text): what comes back owns a new row. -/
import Derived.Test.YtnoeiaicligmiaaDoorSFmtP
import Derived.Lib.SlBytesConst
import Derived.ArgAppend
import Derived.Lib.ItoaMem
import Derived.Lib.AppendIntMem
import Derived.Lib.ItoaWalk
import Derived.BigCall
import Derived.BigGuard
import Derived.CellFam
import Derived.Lib.Walk
namespace Go.Proofs.YtnoeiaicligmiaaDoor
set_option linter.unusedVariables false
set_option linter.unusedSimpArgs false
open Go Go.RowKit Go.Sort
section
variable {ops : Array Oper} {rest : List Oper} {o : Oper} {a : Act} {Q : Exit → Act → World → Prop}
theorem wpList_full_text (w : World) (hgd : o.guard = none) (s x : Operand) (ho : o.op = .call { callee := .builtin .append, args := #[s, x], argTypes := #[22, 9] })
    (g n : Nat) (olds : List Value) (hlo : olds.length = n) (holds : ∀ j u, olds[j]? = some u → w.cell? ⟨g, j, none⟩ = some u) (hs : a.eval s = .slice (some ⟨g, 0, none⟩) n n) (t : ByteArray) (hx : a.eval x = .string t) (h1 : 0 < t.size) (hlen : n + t.size ≤ 140737488355328)
    (h : ∀ v' w', w'.ownsRow w.heap.size 5 1 v' (n + t.size) (olds ++ Lib.strCells t) → w.grownBy w' none → wpList Tryd.prog ops Q rest (a.put o.dst v') w') : wpList Tryd.prog ops Q (o :: rest) a w := by
  obtain ⟨i0, hi, hz0, hz1, hz2⟩ := info_parts byte_info
  refine wpList_plain hgd fun K hK => ?_
  have hr := Lib.run_append_grow_string (P := Tryd.prog) w 22 9 o.type 5 i0 (.int .u8 0) Tryd.underlying22 Tryd.underlying9 hi hz0 ⟨g, 0, none⟩ n n olds (by rw [hz1, hlo]; omega) (fun j u hj => by rw [addr_at]; exact holds j u hj) t (by omega) (by omega) (by rw [hz2]; exact growslice_fits (by omega) (by omega))
  have hge := grownCap_ge w (n + t.size) n 5
  have hcm : grownCap w (n + t.size) n 5 ≤ maxLen := grownCap_le_maxLen w (n + t.size) n 5 (by unfold maxLen; omega)
  have hl2 : (olds ++ Lib.strCells t).length = (n + t.size) * 1 := by rw [List.length_append, hlo, Lib.strCells_length, Nat.mul_one]
  unfold Oper.wp execOp
  simp only [ho, resolve, invoke, builtin, Sem.run_bind, Sem.run_pure, Result.andThen_ok, List.map_toArray, List.map_cons, List.map_nil, hs, hx, hr]
  refine hK _ _ (h _ _ ⟨hl2, .inr ⟨w.heap.size, _, _, rfl, Nat.le_refl _, heap_alloc_new w.drew _, hge, hcm, ?_, ?_⟩⟩ ⟨rfl, rfl, rfl, by simp, fun k hk _ => Below.heap_alloc w.drew _ k hk⟩)
  · have hz1' : (Value.int IntKind.u8 0).cells.size = 1 := rfl
    simp only [Array.size_append, List.size_toArray, size_zeroCells, hz1', hlo, Lib.strCells_length]
    omega
  · simp only [Array.toList_append, List.append_assoc]
    rw [← List.append_assoc, ← hl2]
    exact List.take_left
end
theorem row_le {w : World} {b b' size n : Nat} {e : TypeId} {v : Value} {xs : List Value} (h : w.ownsRow b e size v n xs) (hb : b' ≤ b) : w.ownsRow b' e size v n xs :=
  ⟨h.1, h.2.elim Or.inl (fun ⟨g, cap, cur, hv, hg, r⟩ => Or.inr ⟨g, cap, cur, hv, Nat.le_trans hb hg, r⟩)⟩
theorem below_new {w w' : World} (hg : w.grownBy w' none) : Below w.heap.size w w' := (Below.refl _ _).grown hg (Nat.le_refl _) (fun k hk => by simp at hk)
theorem kept_new {w w' : World} (hb : Below w.heap.size w w') : Lib.OthersKept 5 none w w' := fun k o hk _ _ => by
  rw [hb.block k (Array.getElem?_eq_some_iff.1 hk).1]; exact hk
set_option maxHeartbeats 1000000 in
theorem full_small (g n u : Nat) (hu : u < 100) (olds : List Value) (w : World) (hlo : olds.length = n) (holds : ∀ j u, olds[j]? = some u → w.cell? ⟨g, j, none⟩ = some u) (hlim : n + 20 ≤ 140737488355328) :
    Calls Tryd.prog 47 #[.slice (some ⟨g, 0, none⟩) n n, .int .u64 u, .int .i64 10] w fun e w' => ∃ v', e = .returned v' ∧ w'.ownsRow w.heap.size 5 1 v' (n + (Lib.decDigits u).length) (olds ++ Lib.byteCells (Lib.decDigits u)) ∧ Below w.heap.size w w' := by
  have hlen := dec_len 1 u (by omega)
  have hpos : 0 < (Lib.decDigits u).length := by
    by_cases h10 : u < 10
    · rw [dec_one u h10]; simp
    · rw [dec_more u h10]; simp
  have hsz : (⟨(Lib.decDigits u).toArray⟩ : ByteArray).size = (Lib.decDigits u).length := by simp [ByteArray.size]
  have HS := Lib.hid hsz
  have HO := Lib.hid holds
  have HL := Lib.hid hlo
  clear holds hlo hsz
  go_enter Tryd.func47, Tryd.ntmps47
  go_wp2_with fail
  refine (Tryd.internal_strconv_small u hu _).mono ?_
  rintro e w' ⟨rfl, rfl⟩
  go_wp2_with (at_builtin; (refine wpList_full_text _ rfl _ _ rfl g n olds HL.out HO.out rfl ⟨(Lib.decDigits u).toArray⟩ rfl ?c1 ?c2 ?_); (case c1 => (rw [HS.out]; exact hpos)); (case c2 => (rw [HS.out]; omega)); intro v1 w1 hown hg; (have H1 := Lib.hid hown); (have H2 := Lib.hid hg); clear hown hg)
  go_ret
  refine ⟨v1, rfl, ?_, below_new H2.out⟩
  have := H1.out
  rw [HS.out] at this
  exact this
set_option maxRecDepth 100000 in
set_option maxHeartbeats 4000000 in
theorem full_big (g n u : Nat) (hu : 100 ≤ u) (hu64 : u < 18446744073709551616) (olds : List Value) (w : World) (hgw : g < w.heap.size) (hlo : olds.length = n) (holds : ∀ j u, olds[j]? = some u → w.cell? ⟨g, j, none⟩ = some u) (hlim : n + 20 ≤ 140737488355328) (htab : Lib.TabIs Tryd.prog w "internal/strconv.uint64pow10" .u64 Lib.pow10Tab) :
    Calls Tryd.prog 47 #[.slice (some ⟨g, 0, none⟩) n n, .int .u64 u, .int .i64 10] w fun e w' => ∃ v', e = .returned v' ∧ w'.ownsRow w.heap.size 5 1 v' (n + (Lib.decDigits u).length) (olds ++ Lib.byteCells (Lib.decDigits u)) ∧ Below w.heap.size w w' := by
  have hu1 : 1 ≤ u := by omega
  have hd20 := dec_len 19 u (by omega)
  have hnd : Lib.nDigits u ≤ 20 := by rw [← Lib.decDigits_length]; exact hd20
  have hnp : 1 ≤ Lib.nDigits u := by
    rw [← Lib.decDigits_length, dec_more u (by omega)]
    simp
  have hH0 := Lib.holds_zero0 w 92 (Lib.nDigits u) (by omega)
  have hfmt := Tryd.internal_strconv_formatBase10 w.heap.size 0 24 u (Array.replicate (Lib.nDigits u) 0) (w.alloc (.cells Lib.zeros24 92)) hH0 (by rw [Array.size_replicate]; exact Lib.lt_pow_nDigits u) hu64 (by rw [Array.size_replicate]; omega)
  rw [Array.size_replicate] at hfmt
  have HF := Lib.hid hfmt
  have HH := Lib.hid hH0
  have HO := Lib.hid holds
  have HL := Lib.hid hlo
  have HT := Lib.hid (Lib.tabIs_alloc htab (.cells Lib.zeros24 92))
  have iu : (100 : Int) ≤ (u : Int) := by omega
  have n0 : (0 : Int) ≤ (Lib.nDigits u : Int) := by omega
  have n1 : (Lib.nDigits u : Int) ≤ 24 := by omega
  clear holds hlo hH0 hfmt htab
  obtain ⟨i0, hi, hz0, hz1, hz2⟩ := info_parts byte_info
  have HI := Lib.hid hi
  have HZ := Lib.hid (And.intro hz0 (And.intro hz1 hz2))
  clear hi hz0 hz1 hz2
  go_enter Tryd.func47, Tryd.ntmps47
  go_wp2_with fail
  refine (Tryd.internal_strconv_numDigits u hu1 hu64 _ HT.out).mono ?_
  rintro e w' ⟨rfl, rfl⟩
  go_wp2_with fail
  refine HF.out.mono ?_
  rintro e w' ⟨rfl, k, v', dk, rfl, hF⟩
  obtain ⟨os, eo⟩ := Lib.fin_at w (.cells Lib.zeros24 92) dk k 0
  have hcells : ∀ j x, (Lib.byteCells (Lib.decDigits u))[j]? = some x → ((putRow (fun (b : UInt8) => Value.int .u8 (b.toNat : Int)) (w.alloc (.cells Lib.zeros24 92)) w.heap.size 0 dk).drewN k).cell? ((⟨w.heap.size, 0, none⟩ : Addr).add j) = some x := by
    intro j x hj
    have hjl : j < (Lib.decDigits u).length := by
      have h5 := (List.getElem?_eq_some_iff.1 hj).1
      rwa [Lib.byteCells_length] at h5
    have hx : x = Value.int .u8 ((Lib.decDigits u)[j].toNat : Int) := by
      simp [Lib.byteCells, hjl] at hj
      exact hj.symm
    rw [hx, Lib.row_is_numeral hF j hjl, addr_at, World.cell?_drewN]
    have := cell?_putRow (fun (b : UInt8) => Value.int .u8 (b.toNat : Int)) _ w.heap.size 0 _ dk HH.out (by rw [hF.size, Array.size_replicate]) j (by rw [hF.size]; rw [Lib.decDigits_length] at hjl; exact hjl)
    simpa using this
  have hbl : Below w.heap.size w ((putRow (fun (b : UInt8) => Value.int .u8 (b.toNat : Int)) (w.alloc (.cells Lib.zeros24 92)) w.heap.size 0 dk).drewN k) := by rw [eo]; exact Lib.below_grow _ w (Nat.le_refl _) k os
  generalize (putRow (fun (b : UInt8) => Value.int .u8 (b.toNat : Int)) (w.alloc (.cells Lib.zeros24 92)) w.heap.size 0 dk).drewN k = W2 at hcells hbl ⊢
  have HC := Lib.hid hcells
  have HB := Lib.hid hbl
  have hw2 := hbl.size
  clear eo hcells hbl hF HF HH
  go_wp2_with (at_builtin; (refine wpList_append_grows _ rfl _ _ 22 rfl 5 i0 (.int .u8 0) 1 1 Tryd.underlying22 HI.out HZ.out.1 HZ.out.2.1 HZ.out.2.2 rfl (by decide) (some ⟨g, 0, none⟩) n n olds rfl ?c0 ?c1 ?c2 ⟨w.heap.size, 0, none⟩ (Lib.nDigits u) 24 (Lib.byteCells (Lib.decDigits u)) rfl ?c3 HC.out ?c4 ?c5 ?c6 ?c7 ?_))
  case c0 => intro h; cases h
  case c1 => rw [HL.out]; omega
  case c2 =>
    intro b hb j x hj
    simp only [Option.some.injEq] at hb
    subst hb
    rw [addr_at, HB.out.cell hgw]
    exact HO.out j x hj
  case c3 => rw [Lib.byteCells_length, Lib.decDigits_length, Nat.mul_one]
  case c4 => exact bytes_one _
  case c5 => omega
  case c6 => unfold maxLen; omega
  case c7 => omega
  intro v1 w1 hown hg
  have H1 := Lib.hid hown
  have H2 := Lib.hid hg
  clear hown hg
  go_wp2_with fail
  go_ret
  refine ⟨v1, rfl, ?_, HB.out.trans ((below_new H2.out).mono hw2)⟩
  rw [Lib.decDigits_length]
  exact row_le H1.out hw2
theorem full_any (g n u : Nat) (hu64 : u < 18446744073709551616) (olds : List Value) (w : World) (hgw : g < w.heap.size) (hlo : olds.length = n) (holds : ∀ j u, olds[j]? = some u → w.cell? ⟨g, j, none⟩ = some u) (hlim : n + 20 ≤ 140737488355328) (htab : Lib.TabIs Tryd.prog w "internal/strconv.uint64pow10" .u64 Lib.pow10Tab) :
    Calls Tryd.prog 47 #[.slice (some ⟨g, 0, none⟩) n n, .int .u64 u, .int .i64 10] w fun e w' => ∃ v', e = .returned v' ∧ w'.ownsRow w.heap.size 5 1 v' (n + (Lib.decDigits u).length) (olds ++ Lib.byteCells (Lib.decDigits u)) ∧ Below w.heap.size w w' := by
  by_cases hu : u < 100
  · exact full_small g n u hu olds w hlo holds hlim
  · exact full_big g n u (by omega) hu64 olds w hgw hlo holds hlim htab
/-- the first append of Format: onto the row of a constant text -/
theorem uint_full (B g : Nat) (w0 w : World) (l : List UInt8) (hb : Below B w0 w) (hB : B ≤ w.heap.size) (hk : Lib.OthersKept 5 none w0 w) (hgw : g < w.heap.size) (holds : ∀ j u, (Lib.byteCells l)[j]? = some u → w.cell? ⟨g, j, none⟩ = some u) (n : Nat) (hn : l.length = n) (tb : TabB B w0) (u : Int) (h0 : 0 ≤ u) (h1 : u ≤ 18446744073709551615) (hl : l.length + 20 ≤ 140737488355328) :
    Calls Tryd.prog 33 #[.slice (some ⟨g, 0, none⟩) n n, .int .u64 u, .int .i64 10] w fun e w' => ∃ v', e = .returned v' ∧ Buf B w0 w' v' (l ++ natT u) := by
  subst hn
  obtain ⟨x, rfl⟩ := Int.eq_ofNat_of_zero_le h0
  have C := Lib.hid (full_any g l.length x (by omega) (Lib.byteCells l) w hgw (by simp [Lib.byteCells]) holds hl (tb.on hb).here)
  have HB := Lib.hid hb
  have HK := Lib.hid hk
  clear hb tb holds hk
  go_enter Tryd.func33, Tryd.ntmps33
  go_wp2_with fail
  refine C.out.mono ?_
  rintro e w1 ⟨v', rfl, hb⟩
  have H := Lib.hid hb
  clear hb
  go_wp2_with fail
  go_ret
  refine ⟨v', rfl, ?_, HB.out.trans (H.out.2.mono hB), HK.out.trans (kept_new H.out.2), Nat.le_trans hB H.out.2.size⟩
  rw [Lib.byteCells_append, List.length_append]
  exact row_le H.out.1 hB
end Go.Proofs.YtnoeiaicligmiaaDoor
