/- Part of a proof: V4 V5. -/
import Derived.Test.YtpabdmcbahmjnaaGreatMVA
import Derived.Test.YtpabdmcbahmjnaaGreatMUB
import Derived.Test.YtpabdmcbahmjnaaGreatMU11
namespace Go.Proofs.YtpabdmcbahmjnaaGreat
namespace Tv
open Go Go.RowKit Go.MapKept
set_option linter.unusedSimpArgs false
set_option linter.unusedVariables false
def EnPost (bm be : Nat) (σ : Sg) (x : XS) (w : World) (st : Bool) (fs : List (Int × Int)) (e : Ending) (w' : World) : Prop :=
 ∃ (σ' : Sg) (x' : XS) (v' : Value) (fs' : List (Int × Int)) (A : Option Addr) (r c : Nat), e = .returned (.agg #[.bool st, v', .slice A r c]) ∧ EW bm be σ' x' w' ∧ HF bm be σ w σ' w' ∧ Up x x' 20 ∧
  StkAt bm be σ' w' v' fs' ∧ (fs' = fs ∨ ∃ m, fs' = fs ++ [(m, 0)]) ∧ SlOk tab σ' 139 A r c ∧ r ≤ x'.L
theorem two_old {w : World} {b : Nat} (hb : b < w.heap.size) (o1 o2 : Obj) : ((w.alloc o1).alloc o2).heap[b]? = w.heap[b]? := by
 rw [Below.heap_alloc _ _ _ (by simp; omega), Below.heap_alloc _ _ _ hb]
theorem en_done {bm be : Nat} {σ σ4 : Sg} {x x3 : XS} {w w4 wf : World} {st : Bool} {fs : List (Int × Int)} {v : Value} {A : Option Addr} {r c : Nat} (E4 : EW bm be σ4 x3 w4) (F4 : HF bm be σ w σ4 w4) (U3 : Up x x3 20) (hS : StkAt bm be σ w v fs)
  (L4 : Lo bm be σ4 w4 w.heap.size) (L6 : Lo bm be σ4 w4 (w.heap.size + 1)) (W : OnB (fun b => b = w.heap.size ∨ b = w.heap.size + 1) w4 wf) (hw : SlOk tab σ4 139 A r c) (hr : r ≤ x3.L) :
  EnPost bm be σ x w st fs (.returned (.agg #[.bool st, v, .slice A r c])) wf := by
 have h1 : ∀ b, b = w.heap.size ∨ b = w.heap.size + 1 → Lo bm be σ4 w4 b := by
  rintro b (rfl | rfl)
  ·exact L4
  ·exact L6
 refine ⟨σ4, x3, v, fs, A, r, c, rfl, E4.on W h1, F4.on W (by rintro b (rfl | rfl) <;> omega), U3, (hS.next F4).on W (fun g hg => ?_), .inl rfl, hw, hr⟩
 have := (hS.lo g hg).1
 omega
set_option maxRecDepth 100000 in
theorem enter_h {bm be : Nat} {σ : Sg} {x : XS} {w : World} (h : EW bm be σ x w) (hL : x.L + 20 ≤ 137438950000) (st : Bool) (v : Value) (fs : List (Int × Int)) (hs : StkAt bm be σ w v fs) (hfs : fs.length ≤ 1000000000)
  (A : Option Addr) (r c : Nat) (hw : SlOk tab σ 139 A r c) (hr : r ≤ x.L) (i : Int) (hi : InR .i64 i) :
  Calls Tryz.prog 102 #[.pointer (some ⟨be, 0, none⟩), .agg #[.bool st, v, .slice A r c], .int .i64 i] w (EnPost bm be σ x w st fs) := by
 obtain ⟨A0, c0, rfl⟩ := row_form hs.row
 obtain ⟨r0, ro, q, hr0, hq, hrd⟩ := h.reads
 have k2 := fun o1 o2 => (hrd _ (two_old h.lo.2 o1 o2)).1
 have k3 := fun o1 o2 => (hrd _ (two_old h.lo.2 o1 o2)).2.1
 have HE := Lib.hid h
 have HS := Lib.hid hs
 have HW := Lib.hid hw
 have HR := Lib.hid hr
 have HI := Lib.hid hi
 have HR0 := Lib.hid hr0
 have HL := Lib.hid hL
 have HFS := Lib.hid hfs
 clear hq hrd h hs hw hr hi hr0 hL
 go_enter Tryz.func102, Tryz.ntmps102
 go_wp2_with fail
 obtain ⟨e1, l1, f1⟩ := HE.out.alloc (.cells #[.bool st, .slice A0 fs.length c0, .slice A r c] 104)
 obtain ⟨e2, l2, f2⟩ := e1.alloc (.cells #[.bool false, .slice none 0 0, .slice none 0 0] 104)
 refine (read_h e2 HL.out r0 i ro HR0.out HI.out).mono ?_
 rintro e w3 ⟨m, σ3, x3, rfl, hm, e3, f3, u3⟩
 have hz3 := f3.size
 have F3 := Lib.hid ((f1.trans f2).trans f3)
 have L4 := Lib.hid (f3.keep _ (f2.keep _ l1).1)
 have L6 := Lib.hid (f3.keep _ l2)
 rw [show (w.alloc (.cells #[.bool st, .slice A0 fs.length c0, .slice A r c] 104)).heap.size = w.heap.size + 1 by simp] at l2 L6
 have B4 : Hid (w3.heap[w.heap.size]? = some (.cells #[.bool st, .slice A0 fs.length c0, .slice A r c] 104 (0, 0))) := Lib.hid (L4.out.2.trans ((f2.keep _ l1).2.trans (heap_alloc w _).1))
 have B6 : Hid (w3.heap[w.heap.size + 1]? = some (.cells #[.bool false, .slice none 0 0, .slice none 0 0] 104 (0, 0))) := Lib.hid (by
  rw [L6.out.2]
  have := (heap_alloc (w.alloc (.cells #[.bool st, .slice A0 fs.length c0, .slice A r c] 104)) (.cells #[.bool false, .slice none 0 0, .slice none 0 0] 104)).1
  simpa using this)
 have U3 := Lib.hid u3
 have E3 := Lib.hid e3
 have HM := Lib.hid hm
 have hL3 : x3.L ≤ 137438950000 := by have := HL.out; have := u3.up; omega
 clear e1 e2 l1 l2 f1 f2 f3 e3 u3 hm
 go_wp2_with fail
 refine (node_h E3.out hL3 m HM.out).mono ?_
 rintro e w4 ⟨vs, σ4, rfl, hn, e4, f4⟩
 obtain ⟨k, g, mn, bp, An, nb, cn, hh, key, val, A2, np, c2, p1, p2, p3, p4, p5, rfl, a1, a2, a3, a4, a5, a6, a7, a8, ⟨a9, a9'⟩, b1, b2, b3, b4, b5⟩ := node_form hn
 have hz4 := f4.size
 have F4 := Lib.hid (F3.out.trans f4)
 have L4' := Lib.hid (f4.keep _ L4.out.1)
 have L6' := Lib.hid (f4.keep _ L6.out.1)
 have C4 := Lib.hid (L4'.out.2.trans B4.out)
 have C6 := Lib.hid (L6'.out.2.trans B6.out)
 have E4 := Lib.hid e4
 have NP := Lib.hid a9
 have NP2 := Lib.hid a9'
 have KEY := Lib.hid a7
 have VAL := Lib.hid a8
 clear hn e4 f4 a1 a2 a3 a4 a5 a6 a7 a8 a9 a9' b1 b2 b3 b4 b5 F3 L4 L6 B4 B6 hL3
 have hz : w.heap.size + 2 ≤ w4.heap.size := by simp at hz3; omega
 have cc4 := fun (W : World) (o : Obj) (h : W.heap[w.heap.size]? = w4.heap[w.heap.size]?) => h
 by_cases hk3 : k = 3
 ·subst hk3
  have q0 : ∀ o, (w4.alloc o).cell? ⟨w.heap.size, 0, none⟩ = some (.bool st) := fun o => blk_cell ((Below.heap_alloc _ _ _ (by omega)).trans C4.out) 0
  have q1 : ∀ o, (w4.alloc o).cell? ⟨w.heap.size, 1, none⟩ = some (.slice A0 fs.length c0) := fun o => blk_cell ((Below.heap_alloc _ _ _ (by omega)).trans C4.out) 1
  have q1' : ∀ o o', ((w4.alloc o).alloc o').cell? ⟨w.heap.size, 1, none⟩ = some (.slice A0 fs.length c0) := fun o o' => blk_cell ((two_old (by omega) o o').trans C4.out) 1
  have S4 := Lib.hid (HS.out.next F4.out)
  go_wp2_with (at_builtin; refine stopAt ?_)
  unfold StopAt
  generalize hN : Obj.cells #[.int .i64 3, .int .i64 g, .int .i64 mn, .int .u64 bp, .slice An nb cn, .int .u64 hh, .string key, .int .u64 val, .slice A2 np c2, .int .i64 p1, .int .i64 p2, .int .i64 p3, .int .i64 p4, .int .i64 p5] 110 = oN
  clear hN
  have hz5 : (w4.alloc oN).heap.size = w4.heap.size + 1 := by simp
  have O5 : Hid (OnB (fun _ => False) w4 (w4.alloc oN)) := Lib.hid ((OnB.refl _ w4).alloc oN)
  have Q0 := Lib.hid (q0 oN)
  have hlit : ((w4.alloc oN).alloc (.cells #[] 168)).ownsRow (w4.heap.size + 1) 168 2 (.slice (some ⟨w4.heap.size + 1, 0, none⟩) 0 0) 0 [] := by
   have := World.ownsRow_lit (w4.alloc oN) (base := w4.heap.size + 1) (e := 168) (size := 2) #[] 0 (Nat.le_of_eq hz5.symm) (by unfold maxLen; omega) rfl
   rw [hz5] at this
   exact this
  refine wpList_appv 101 168 Tryz.underlying101 _ 2 16 fr_info rfl (by decide) rfl _ _ rfl (w4.heap.size + 1) _ (.slice (some ⟨w4.heap.size + 1, 0, none⟩) 0 0) 0 [] rfl hlit A0 _ _ (fs.flatMap frC) rfl (fun h0 => by
    rcases row_cases HS.out.row with ⟨_, h1, h2⟩ | ⟨_, h1, _⟩
    ·exact ⟨h1, h2⟩
    ·rw [h0] at h1; cases h1) (by rw [frC_len]) (fun ad had j u hu => by
    subst had
    rcases row_cases S4.out.row with ⟨h1, _⟩ | ⟨gg, h1, _⟩
    ·cases h1
    ·injection h1 with h1
     subst h1
     have hl := (S4.out.lo gg rfl).1
     refine (World.cell?_of_block ?_).trans (S4.out.row.cells (g := gg) rfl j u hu)
     rw [raddr]
     exact two_old hl _ _) (frC_one _) (by simp) (by unfold maxLen; omega) (by omega) ?_
  intro v1 w7 ho7 hg7
  simp only [Nat.zero_add, List.nil_append] at ho7
  have O7 := Lib.hid ho7
  have W7 := Lib.hid ((O5.out.alloc _).grown hg7 (fun k hk => .inr (by have e : w4.heap.size + 1 = k := Option.some.inj hk; omega)))
  have hs7 : w4.heap.size + 2 ≤ w7.heap.size := by have := hg7.size; simp at this; omega
  clear ho7 hg7 hlit
  go_wp2_with (at_builtin; refine stopAt ?_)
  unfold StopAt
  refine wpList_app 101 168 Tryz.underlying101 _ 2 16 fr_info rfl (by decide) rfl _ _ rfl (w4.heap.size + 1) _ _ _ _ rfl (O7.out.alloc _) ⟨w7.heap.size, 0, none⟩ 1 1 (frC (m, 0)) rfl rfl (one_cells w7 (m, 0)) (one_one (m, 0)) (by simp; omega) (by unfold maxLen; omega) (by omega) ?_
  intro a8 c8 w8 ho8 hg8
  have O8 := Lib.hid ho8
  have W8 := Lib.hid ((W7.out.alloc _).grown hg8 (fun k hk => .inr (by have := (row_kind O7.out hk).1; omega)))
  have hs8 : w7.heap.size < w8.heap.size := by have := hg8.size; simp at this; omega
  have d4 := (W8.out.block w.heap.size (by omega) (fun h => h)).trans C4.out
  have d6 := (W8.out.block (w.heap.size + 1) (by omega) (fun h => h)).trans C6.out
  have r0' := blk_cell d4 0
  have r1' := blk_cell d4 1
  have s0' := blk_cell d6 0
  have s1' := blk_cell d6 1
  have s2' := blk_cell d6 2
  have z1' := blk_frozen d4 1
  have y0' := blk_frozen d6 0
  have y1' := blk_frozen d6 1
  have y2' := blk_frozen d6 2
  have r2' := blk_cell d4 2
  simp only [List.getElem?_toArray, List.getElem?_cons_zero, List.getElem?_cons_succ] at r0' r1' r2' s0' s1' s2'
  clear ho8 hg8 d4 d6
  go_wp2_with fail
  obtain ⟨g0, g1, g2⟩ := three_set (w := w8) (b := w.heap.size + 1) (p := w.heap.size) (k := 1) (by omega) (u := .slice a8 (fs.length + 1) c8) (y0 := .bool st) (y1 := .slice a8 (fs.length + 1) c8) (y2 := .slice A r c) s0' s1' s2'
  refine bodyPost_ret (v := .agg #[.bool st, .slice a8 (fs.length + 1) c8, .slice A r c]) (by simp [results, Tryz.results102, go_sem, g0, g1, g2]) rfl ?_
  have WF8 : OnB (fun b => b = w.heap.size ∨ b = w.heap.size + 1) w8 _ := (((((OnB.refl _ w8).set (p := ⟨w.heap.size, 1, none⟩) (.inl (.inl rfl)) (.slice a8 (fs.length + 1) c8)).set (p := ⟨w.heap.size + 1, 0, none⟩) (.inl (.inr rfl)) (.bool st)).set (p := ⟨w.heap.size + 1, 1, none⟩) (.inl (.inr rfl)) (.slice a8 (fs.length + 1) c8)).set (p := ⟨w.heap.size + 1, 2, none⟩) (.inl (.inr rfl)) (.slice A r c))
  have WF := (W8.out.mono (T := fun b => b = w.heap.size ∨ b = w.heap.size + 1) (fun _ h => h.elim)).trans WF8
  refine ⟨σ4, x3, _, fs ++ [(m, 0)], A, r, c, rfl, E4.out.on WF ?_, F4.out.on WF ?_, U3.out, ⟨?_, ?_, ?_⟩, .inr ⟨m, rfl⟩, HW.out.mono F4.out.sg, Nat.le_trans HR.out U3.out.le⟩
  ·rintro b (rfl | rfl)
   ·exact L4'.out.1
   ·exact L6'.out.1
  ·rintro b (rfl | rfl) <;> omega
  ·have := row_keep (w' := ((((w8.setCell ⟨w.heap.size, 1, none⟩ (.slice a8 (fs.length + 1) c8)).setCell ⟨w.heap.size + 1, 0, none⟩ (.bool st)).setCell ⟨w.heap.size + 1, 1, none⟩ (.slice a8 (fs.length + 1) c8)).setCell ⟨w.heap.size + 1, 2, none⟩ (.slice A r c))) (row_le O8.out (Nat.zero_le _)) (fun g hg => WF8.block g (row_lt O8.out hg) (by have := (row_kind O8.out hg).1; omega))
   simpa using this
  ·intro g hg
   have h1 := (row_kind O8.out hg).1
   have h2 := row_lt O8.out hg
   exact E4.out.newLo (by omega) (Nat.lt_of_lt_of_le h2 WF8.size)
  ·intro y hy
   rcases List.mem_append.1 hy with hy | hy
   ·exact HS.out.bd y hy
   ·simp only [List.mem_singleton] at hy
    subst hy
    exact ⟨HM.out, by rw [i64_min]; show (-9223372036854775808 : Int) ≤ 0; omega, by rw [i64_max]; show (0 : Int) ≤ 9223372036854775807; omega⟩
 ·by_cases hk5 : k = 5
  ·subst hk5
   have D4 := fun o o' => (two_old (show w.heap.size < w4.heap.size by omega) o o').trans C4.out
   have D6 := fun o o' => (two_old (show w.heap.size + 1 < w4.heap.size by omega) o o').trans C6.out
   have t0 := fun o o' => blk_cell (D4 o o') 0
   have t1 := fun o o' => blk_cell (D4 o o') 1
   have t2 := fun o o' => blk_cell (D4 o o') 2
   have s0 := fun o o' => blk_cell (D6 o o') 0
   have s1 := fun o o' => blk_cell (D6 o o') 1
   have s2 := fun o o' => blk_cell (D6 o o') 2
   have z1 := fun o o' => blk_frozen (D4 o o') 2
   have y0 := fun o o' => blk_frozen (D6 o o') 0
   have y1 := fun o o' => blk_frozen (D6 o o') 1
   have y2 := fun o o' => blk_frozen (D6 o o') 2
   simp only [List.getElem?_toArray, List.getElem?_cons_zero, List.getElem?_cons_succ] at t0 t1 t2 s0 s1 s2
   clear D4 D6
   go_wp2_with fail
   have hz5 : ∀ o, (w4.alloc o).heap.size = w4.heap.size + 1 := fun o => by simp
   generalize hN : Obj.cells #[.int .i64 5, .int .i64 g, .int .i64 mn, .int .u64 bp, .slice An nb cn, .int .u64 hh, .string key, .int .u64 val, .slice A2 np c2, .int .i64 p1, .int .i64 p2, .int .i64 p3, .int .i64 p4, .int .i64 p5] 110 = oN
   clear hN
   obtain ⟨e5, _, f5⟩ := E4.out.alloc oN
   obtain ⟨σ6, e6, f6, hso⟩ := e5.pair key val KEY.out VAL.out
   rw [hz5] at hso
   obtain ⟨g0, g1, g2⟩ := three_set (w := (w4.alloc oN).alloc (.cells #[.string key, .int .u64 val] 139)) (b := w.heap.size + 1) (p := w.heap.size) (k := 2) (by omega) (u := .slice (some ⟨w4.heap.size + 1, 0, none⟩) 1 1) (y0 := .bool st) (y1 := .slice A0 fs.length c0) (y2 := .slice (some ⟨w4.heap.size + 1, 0, none⟩) 1 1) (s0 _ _) (s1 _ _) (s2 _ _)
   refine bodyPost_ret (v := .agg #[.bool st, .slice A0 fs.length c0, .slice (some ⟨w4.heap.size + 1, 0, none⟩) 1 1]) (by simp [results, Tryz.results102, go_sem, g0, g1, g2]) rfl ?_
   have f46 := f5.trans f6
   exact en_done e6 (F4.out.trans f46) U3.out HS.out (f46.keep _ L4'.out.1).1 (f46.keep _ L6'.out.1).1
    (((((OnB.refl _ _).set (p := ⟨w.heap.size, 2, none⟩) (.inl (.inl rfl)) _).set (p := ⟨w.heap.size + 1, 0, none⟩) (.inl (.inr rfl)) _).set (p := ⟨w.heap.size + 1, 1, none⟩) (.inl (.inr rfl)) _).set (p := ⟨w.heap.size + 1, 2, none⟩) (.inl (.inr rfl)) _) hso (by have := E4.out.xi.L0; omega)
  ·have D4 := fun o => (Below.heap_alloc w4 o _ (show w.heap.size < w4.heap.size by omega)).trans C4.out
   have D6 := fun o => (Below.heap_alloc w4 o _ (show w.heap.size + 1 < w4.heap.size by omega)).trans C6.out
   have t0 := fun o => blk_cell (D4 o) 0
   have t1 := fun o => blk_cell (D4 o) 1
   have t2 := fun o => blk_cell (D4 o) 2
   have s0 := fun o => blk_cell (D6 o) 0
   have s1 := fun o => blk_cell (D6 o) 1
   have s2 := fun o => blk_cell (D6 o) 2
   have z1 := fun o => blk_frozen (D4 o) 2
   have y0 := fun o => blk_frozen (D6 o) 0
   have y1 := fun o => blk_frozen (D6 o) 1
   have y2 := fun o => blk_frozen (D6 o) 2
   simp only [List.getElem?_toArray, List.getElem?_cons_zero, List.getElem?_cons_succ] at t0 t1 t2 s0 s1 s2
   clear D4 D6
   by_cases hk6 : k = 6
   ·subst hk6
    go_wp2_with fail
    generalize hN : Obj.cells #[.int .i64 6, .int .i64 g, .int .i64 mn, .int .u64 bp, .slice An nb cn, .int .u64 hh, .string key, .int .u64 val, .slice A2 np c2, .int .i64 p1, .int .i64 p2, .int .i64 p3, .int .i64 p4, .int .i64 p5] 110 = oN
    clear hN
    obtain ⟨e5, _, f5⟩ := E4.out.alloc oN
    obtain ⟨g0, g1, g2⟩ := three_set (w := w4.alloc oN) (b := w.heap.size + 1) (p := w.heap.size) (k := 2) (by omega) (u := .slice A2 np c2) (y0 := .bool st) (y1 := .slice A0 fs.length c0) (y2 := .slice A2 np c2) (s0 _) (s1 _) (s2 _)
    refine bodyPost_ret (v := .agg #[.bool st, .slice A0 fs.length c0, .slice A2 np c2]) (by simp [results, Tryz.results102, go_sem, g0, g1, g2]) rfl ?_
    exact en_done e5 (F4.out.trans f5) U3.out HS.out (f5.keep _ L4'.out.1).1 (f5.keep _ L6'.out.1).1
     (((((OnB.refl _ _).set (p := ⟨w.heap.size, 2, none⟩) (.inl (.inl rfl)) _).set (p := ⟨w.heap.size + 1, 0, none⟩) (.inl (.inr rfl)) _).set (p := ⟨w.heap.size + 1, 1, none⟩) (.inl (.inr rfl)) _).set (p := ⟨w.heap.size + 1, 2, none⟩) (.inl (.inr rfl)) _) NP2.out NP.out
   ·go_wp2_with fail
    generalize hN : Obj.cells #[.int .i64 k, .int .i64 g, .int .i64 mn, .int .u64 bp, .slice An nb cn, .int .u64 hh, .string key, .int .u64 val, .slice A2 np c2, .int .i64 p1, .int .i64 p2, .int .i64 p3, .int .i64 p4, .int .i64 p5] 110 = oN
    clear hN
    obtain ⟨e5, _, f5⟩ := E4.out.alloc oN
    obtain ⟨g0, g1, g2⟩ := three_set0 (w := w4.alloc oN) (b := w.heap.size + 1) (y0 := .bool st) (y1 := .slice A0 fs.length c0) (y2 := .slice A r c) (s0 _) (s1 _) (s2 _)
    refine bodyPost_ret (v := .agg #[.bool st, .slice A0 fs.length c0, .slice A r c]) (by simp [results, Tryz.results102, go_sem, g0, g1, g2]) rfl ?_
    exact en_done e5 (F4.out.trans f5) U3.out HS.out (f5.keep _ L4'.out.1).1 (f5.keep _ L6'.out.1).1
     ((((OnB.refl _ _).set (p := ⟨w.heap.size + 1, 0, none⟩) (.inl (.inr rfl)) _).set (p := ⟨w.heap.size + 1, 1, none⟩) (.inl (.inr rfl)) _).set (p := ⟨w.heap.size + 1, 2, none⟩) (.inl (.inr rfl)) _) (HW.out.mono (F4.out.trans f5).sg) (Nat.le_trans HR.out U3.out.le)
def HasPost (w : World) (e : Ending) (w' : World) : Prop := ∃ q : Bool, e = .returned (.bool q) ∧ w = w'
theorem has_any (b i : Int) (h0 : 0 ≤ b) (h1 : b ≤ 18446744073709551615) (i0 : 0 ≤ i) (i1 : i < 64) (w : World) : Calls Tryz.prog 103 #[.int .u64 b, .int .i64 i] w (HasPost w) := by
 go_enter Tryz.func103, Tryz.ntmps103
 go_wp2
 go_ret
 exact ⟨_, rfl, rfl⟩
def LkPost (bm be : Nat) (σ : Sg) (x : XS) (w : World) (e : Ending) (w' : World) : Prop :=
 ∃ (b : Int) (q : Bool) (σ' : Sg), e = .returned (.tuple #[.int .i64 b, .bool q]) ∧ InR .i64 b ∧ EW bm be σ' x w' ∧ HF bm be σ w σ' w'
theorem lookup_h {bm be : Nat} {σ : Sg} {x : XS} {w : World} (h : EW bm be σ x w) (hL : x.L ≤ 137438950000) {k g mn bp : Int} {A : Option Addr} {nb c : Nat} {hh : Int} {key : ByteArray} {val : Int} {A2 : Option Addr} {np c2 : Nat} {p1 p2 p3 p4 p5 : Int}
  (hn : NodeV σ bm be x.L [.int .i64 k, .int .i64 g, .int .i64 mn, .int .u64 bp, .slice A nb c, .int .u64 hh, .string key, .int .u64 val, .slice A2 np c2, .int .i64 p1, .int .i64 p2, .int .i64 p3, .int .i64 p4, .int .i64 p5]) (i : Int) (hi : InR .i64 i) :
  Calls Tryz.prog 86 #[.agg #[.int .i64 k, .int .i64 g, .int .i64 mn, .int .u64 bp, .slice A nb c, .int .u64 hh, .string key, .int .u64 val, .slice A2 np c2, .int .i64 p1, .int .i64 p2, .int .i64 p3, .int .i64 p4, .int .i64 p5], .int .i64 i] w (LkPost bm be σ x w) := by
 have hx : Cells tab σ (bE bm be) (ndX x.L k bp nb) [.int .i64 k, .int .i64 g, .int .i64 mn, .int .u64 bp, .slice A nb c, .int .u64 hh, .string key, .int .u64 val, .slice A2 np c2, .int .i64 p1, .int .i64 p2, .int .i64 p3, .int .i64 p4, .int .i64 p5] := by
  unfold NodeV ndT at hn
  unfold ndX
  rcases hn with _ | ⟨a1, _ | ⟨a2, _ | ⟨a3, _ | ⟨a4, _ | ⟨a5, hr⟩⟩⟩⟩⟩
  obtain ⟨_, e1, a1⟩ := a1
  obtain ⟨_, e4, a4⟩ := a4
  obtain ⟨_, _, _, e5, a5, a6⟩ := a5
  injection e1 with _ e1; subst e1
  injection e4 with _ e4; subst e4
  injection e5 with e5 e6 e7; subst e5; subst e6; subst e7
  exact .cons ⟨rfl, a1⟩ (.cons a2 (.cons a3 (.cons ⟨rfl, a4⟩ (.cons ⟨_, _, rfl, a6⟩ hr))))
 have hnb : nb ≤ x.L := by
  obtain ⟨_, e5, A', n', c', e6, h1, _⟩ := hn.get (i := 4) (x := .sl 51 x.L) rfl
  simp only [List.getElem?_cons_succ, List.getElem?_cons_zero, Option.some.injEq] at e5
  rw [← e5] at e6
  injection e6 with _ e7
  omega
 refine Calls.mono (EW.pure sat_Lookup rfl h (avs := [.one (.agg (ndX x.L k bp nb)), .one (.c (.int .i64 i))]) (.cons ⟨_, rfl, hx⟩ (.cons ⟨rfl, hi⟩ .nil)) rfl
  (R := fun r => r = .tup [.c (.tint .i64), .c .tbool]) ?_) ?_
 ·(conv => whnf)
  refine ⟨?_, ?_, rfl, ⟨hnb, by omega⟩, ?_⟩
  ·repeat' (first | exact True.intro | exact Eq.refl _ | exact Iff.refl _ | exact Nat.le_refl _ | ((conv => whnf) <;> (first | with_reducible refine And.intro ?_ ?_ | with_reducible refine Iff.intro ?_ ?_)))
  ·exact True.intro
  ·exact ⟨rfl, rfl⟩
 ·rintro e w' ⟨v, r', σ', rfl, rfl, ⟨vs, rfl, hv⟩, hw, hf⟩
  obtain ⟨l⟩ := vs
  simp only at hv
  rcases hv with _ | ⟨⟨b, rfl, hb⟩, _ | ⟨⟨q, rfl⟩, _ | _⟩⟩
  exact ⟨b, q, σ', rfl, hb, hw, hf⟩
theorem EW.pairAt {bm be : Nat} {σ : Sg} {x : XS} {w : World} (h : EW bm be σ x w) {A : Option Addr} {r c : Nat} (hs : SlOk tab σ 139 A r c) (hr : 0 < r) :
  ∃ (b off : Nat) (key : ByteArray) (val : Int), A = some ⟨b, off, none⟩ ∧ b < w.heap.size ∧ σ b ≠ none ∧ (∀ w' : World, w'.heap[b]? = w.heap[b]? → w'.cell? ⟨b, off, none⟩ = some (.string key) ∧ w'.cell? ⟨b, off + 1, none⟩ = some (.int .u64 val)) ∧
   key.size ≤ strMax ∧ InR .u64 val ∧ SlOk tab σ 139 (some ⟨b, off + 2, none⟩) (r - 1) (c - 1) ∧ (c = 1 → SlOk tab σ 139 (some ⟨b, off, none⟩) (r - 1) (c - 1)) := by
 obtain ⟨h1, h2, h3, h4⟩ := hs
 cases A with
 | none => have := h3 rfl; omega
 | some a =>
  obtain ⟨g1, m, q, g2, g3, g4⟩ := h4 a rfl
  obtain ⟨b, off, sp⟩ := a
  simp only at g1 g2 g3
  subst g1
  have hl : tab.lay 139 = [.str, .int .u64] := rfl
  rw [hl] at g2 g3
  have g3 : off = q * 2 := g3
  obtain ⟨p1, cs, T, p2, p3, p4⟩ := h.inv.hp b _ m g2
  have p3 : cs.size = m * 2 := p3
  obtain ⟨v0, e0⟩ : ∃ v, cs[off]? = some v := ⟨_, Array.getElem?_eq_getElem (by omega)⟩
  obtain ⟨v1, e1⟩ : ∃ v, cs[off + 1]? = some v := ⟨_, Array.getElem?_eq_getElem (by omega)⟩
  have m0 : off % 2 = 0 := by omega
  have m1 : (off + 1) % 2 = 1 := by omega
  obtain ⟨key, rfl, hk⟩ := p4 off v0 .str e0 (by show [CT.str, CT.int .u64][off % 2]? = _; rw [m0]; rfl)
  obtain ⟨val, rfl, hv⟩ := p4 (off + 1) v1 (.int .u64) e1 (by show [CT.str, CT.int .u64][(off + 1) % 2]? = _; rw [m1]; rfl)
  refine ⟨b, off, key, val, rfl, h.inv.lt b _ g2, by rw [g2]; simp, fun w' hw => ?_, hk, hv, ?_, ?_⟩
  ·rw [p2] at hw
   rw [blk_cell hw, blk_cell hw]
   exact ⟨e0, e1⟩
  ·refine ⟨by omega, by omega, (fun e => by cases e), fun a ha => ?_⟩
   injection ha with ha
   subst ha
   exact ⟨rfl, m, q + 1, by rw [hl]; exact g2, by rw [hl]; show off + 2 = (q + 1) * 2; omega, by omega⟩
  ·intro he
   refine ⟨by omega, by omega, (fun e => by cases e), fun a ha => ?_⟩
   injection ha with ha
   subst ha
   exact ⟨rfl, m, q, by rw [hl]; exact g2, by rw [hl]; exact g3, by omega⟩
theorem blk_set {w : World} {g i : Nat} {t : TypeId} {cs : Array Value} (h : w.heap[g]? = some (.cells cs t (0, 0))) (v : Value) : (w.setCell ⟨g, i, none⟩ v).heap[g]? = some (.cells (cs.setIfInBounds i v) t (0, 0)) := by
 unfold World.setCell
 rw [Array.getElem?_modify, if_pos rfl, h]
 rfl
def wtF (x : Int × Int) : Nat := (65 - x.2).toNat
def wtS : List (Int × Int) → Nat
 | [] => 0
 | x :: l => wtF x + wtS l
theorem wtS_app (l l' : List (Int × Int)) : wtS (l ++ l') = wtS l + wtS l' := by
 induction l with
 | nil => simp [wtS]
 | cons x l ih => simp only [List.cons_append, wtS, ih]; omega
theorem wtS_le {l : List (Int × Int)} (h : ∀ x ∈ l, 0 ≤ x.2) : wtS l ≤ 65 * l.length := by
 induction l with
 | nil => simp [wtS]
 | cons x l ih =>
  have h0 := h x (by simp)
  have := ih fun y hy => h y (by simp [hy])
  simp only [wtS, wtF, List.length_cons]
  omega
def MM (x : XS) (fs : List (Int × Int)) (r : Nat) : Nat := 1208925819614629174706176 * x.mu.toNat + 274877906944 * wtS fs + r
theorem MM_r {x : XS} {fs : List (Int × Int)} {r r' : Nat} (h : r' < r) : MM x fs r' < MM x fs r := by unfold MM; omega
theorem MM_top {x : XS} {fl : List (Int × Int)} {C K C' K' : Int} (h0 : K ≤ 64) (h : K < K') : MM x (fl ++ [(C', K')]) 0 < MM x (fl ++ [(C, K)]) 0 := by
 unfold MM
 rw [wtS_app, wtS_app]
 simp only [wtS, wtF]
 have : (65 - K').toNat < (65 - K).toNat := by omega
 omega
theorem MM_pop {x : XS} {fl : List (Int × Int)} {C K : Int} (h0 : K ≤ 64) : MM x fl 0 < MM x (fl ++ [(C, K)]) 0 := by
 unfold MM
 rw [wtS_app]
 simp only [wtS, wtF]
 have : 0 < (65 - K).toNat := by omega
 omega
theorem MM_mu {x x' : XS} {fs fs' : List (Int × Int)} {r r' : Nat} (h0 : 0 ≤ x'.mu) (h : x'.mu < x.mu) (hb : ∀ y ∈ fs', 0 ≤ y.2) (hl : fs'.length ≤ 1000000002) (hr : r' ≤ 137438950000) : MM x' fs' r' < MM x fs r := by
 have h1 := wtS_le hb
 have h2 : x'.mu.toNat + 1 ≤ x.mu.toNat := by omega
 unfold MM
 omega
end Tv
end Go.Proofs.YtpabdmcbahmjnaaGreat
