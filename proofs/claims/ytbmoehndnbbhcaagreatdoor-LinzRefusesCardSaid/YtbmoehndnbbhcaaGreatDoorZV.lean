/- The walk of package linz' Accepts. -/
import Derived.Test.YtbmoehndnbbhcaaGreatDoorMZNp
import Derived.Test.YtbmoehndnbbhcaaGreatDoorMZTb
import Derived.Test.YtbmoehndnbbhcaaGreatDoorMZYa
import Derived.Test.YtbmoehndnbbhcaaGreatDoorMZR
import Derived.Test.YtbmoehndnbbhcaaGreatDoorModQ
namespace Go.Proofs.YtbmoehndnbbhcaaGreatDoor
set_option linter.unusedVariables false
set_option linter.unusedSimpArgs false
open Go Go.RowKit Go.MapKept
section
variable {mask : Int} {ts : List (List OpD)} {l : List EvD} {order : List OpP}
theorem acc_check (h : checkP (lens ts) l ≠ 0) : acceptsP mask ts l order = checkP (lens ts) l := by unfold acceptsP; rw [if_pos h]
theorem acc_exc (h : checkP (lens ts) l = 0) (h1 : excusedP ts l = false) : acceptsP mask ts l order = 8 := by unfold acceptsP; rw [if_neg (by omega), if_pos h1]
theorem acc_mem (h : checkP (lens ts) l = 0) (h1 : excusedP ts l = true) (h2 : membersP l order = false) : acceptsP mask ts l order = 1 := by unfold acceptsP; rw [if_neg (by omega), if_neg (by simp [h1]), if_pos h2]
theorem acc_ord (h : checkP (lens ts) l = 0) (h1 : excusedP ts l = true) (h2 : membersP l order = true) (h3 : ¬ OrderedP l order) : acceptsP mask ts l order = 2 := by unfold acceptsP; rw [if_neg (by omega), if_neg (by simp [h1]), if_neg (by simp [h2]), if_pos h3]
theorem acc_play (h : checkP (lens ts) l = 0) (h1 : excusedP ts l = true) (h2 : membersP l order = true) (h3 : OrderedP l order) (h4 : playP ts l (famO mask) order = false) : acceptsP mask ts l order = 8 := by
  unfold acceptsP; rw [if_neg (by omega), if_neg (by simp [h1]), if_neg (by simp [h2]), if_neg (by simp [h3]), if_pos (show playP ts l ⟨mask, [(0, ⟨[], false⟩)], []⟩ order = false from h4)]
theorem acc_ok (h : checkP (lens ts) l = 0) (h1 : excusedP ts l = true) (h2 : membersP l order = true) (h3 : OrderedP l order) (h4 : playP ts l (famO mask) order = true) : acceptsP mask ts l order = 0 := by
  unfold acceptsP; rw [if_neg (by omega), if_neg (by simp [h1]), if_neg (by simp [h2]), if_neg (by simp [h3]), if_neg]
  show ¬ playP ts l (famO mask) order = false
  rw [h4]; simp
end
open Classical in
theorem ordB_true {l : List EvD} {order : List OpP} (h : orderedB l order = true) : OrderedP l order := by unfold orderedB at h; exact of_decide_eq_true h
open Classical in
theorem ordB_false {l : List EvD} {order : List OpP} (h : orderedB l order = false) : ¬ OrderedP l order := by unfold orderedB at h; exact of_decide_eq_false h
/-- the family at the head of a round -/
def LaRel (wb : World) (ts : List (List OpD)) (l : List EvD) (order : List OpP) (bf bm bi : Nat) (mask : Int) (i : Value) (wr : World) : Prop :=
  ∃ (j : Nat) (A : AFam) (S : Nat → Prop), j ≤ order.length ∧ i = .int .i64 j ∧ FamA wr bf bm bi A S ∧ (∀ k, S k → wb.heap.size ≤ k ∧ k < wr.heap.size) ∧ OkA (j + 1) A ∧ ValA A ∧ playP ts l (famO mask) order = playP ts l A (order.drop j) ∧ Below wb.heap.size wb wr
theorem res_eq_of {e re v rv c rc r x : Int} {f rf y : Bool} {k rk : ByteArray} (h1 : e = re) (h2 : f = rf) (h3 : v = rv) (h4 : k.toList = rk.toList) (h5 : c = rc) (h6 : r = 0) (h7 : x = 0) (h8 : ¬ y = true) : (⟨e, f, v, k, c, r, x, y⟩ : ResF) = ⟨re, rf, rv, rk, rc, 0, 0, false⟩ := by
  have hy : y = false := by simpa using h8
  have hk := bytes_ext _ _ h4
  subst h1 h2 h3 h5 h6 h7 hy hk
  rfl
theorem val_O (m : Int) : ValA (famO m) := fun p hp => by
  simp only [famO, List.mem_singleton] at hp
  subst hp
  simp
theorem resV_full (r : ResD) : resV r.full = .agg r.cells := rfl
def spanV (s : SpD) : Value := s.val
theorem span_res (l : List EvD) (a : OpP) {r : ResF} (h : resultP l a = some r) : (spanP l a).res = r := by unfold spanP; rw [h]; rfl
theorem result_fit {l : List EvD} (fe : EvsFit l) {a : OpP} {r : ResF} (h : resultP l a = some r) : r.Fit := by
  unfold resultP at h
  split at h
  · simp at h
  · obtain ⟨e, he, rfl⟩ := Option.map_eq_some_iff.1 h
    exact fe.res e (List.mem_of_getElem? he)
def ResMid (wb : World) (bf bm bi bx : Nat) (a : OpP) (A1 : AFam) (r : ResD) (v : Value) (wx : World) : Prop :=
  ∃ (q : Nat) (S : Nat → Prop), v = .pointer (some ⟨q, 0, none⟩) ∧ wx.heap[q]? = some (.cells r.cells 45 (0, 0)) ∧ FamA wx bf bm bi A1 S ∧ (∀ k, S k → wb.heap.size ≤ k ∧ k < wx.heap.size) ∧ wx.heap[bx]? = some (opBox a) ∧ Below wb.heap.size wb wx
theorem set8_turned (W : World) (q : Nat) (u0 u1 u2 u3 u4 u5 u6 u7 : Value) : Turned q W ((((((((W.setCell ⟨q, 0, none⟩ u0).setCell ⟨q, 1, none⟩ u1).setCell ⟨q, 2, none⟩ u2).setCell ⟨q, 3, none⟩ u3).setCell ⟨q, 4, none⟩ u4).setCell ⟨q, 5, none⟩ u5).setCell ⟨q, 6, none⟩ u6).setCell ⟨q, 7, none⟩ u7) :=
  turned_more (turned_more (turned_more (turned_more (turned_more (turned_more (turned_more (turned_set W q 0 u0)))))))
theorem set8_here {W : World} {q : Nat} {a0 a1 a2 a3 a4 a5 a6 a7 : Value} {T : TypeId} (h : W.heap[q]? = some (.cells #[a0, a1, a2, a3, a4, a5, a6, a7] T (0, 0))) (u0 u1 u2 u3 u4 u5 u6 u7 : Value) : ((((((((W.setCell ⟨q, 0, none⟩ u0).setCell ⟨q, 1, none⟩ u1).setCell ⟨q, 2, none⟩ u2).setCell ⟨q, 3, none⟩ u3).setCell ⟨q, 4, none⟩ u4).setCell ⟨q, 5, none⟩ u5).setCell ⟨q, 6, none⟩ u6).setCell ⟨q, 7, none⟩ u7).heap[q]? = some (.cells #[u0, u1, u2, u3, u4, u5, u6, u7] T (0, 0)) := by
  have h0 : (W.setCell ⟨q, 0, none⟩ u0).heap[q]? = some (.cells #[u0, a1, a2, a3, a4, a5, a6, a7] T (0, 0)) := by rw [cells_set h u0]; simp
  have h1 : ((W.setCell ⟨q, 0, none⟩ u0).setCell ⟨q, 1, none⟩ u1).heap[q]? = some (.cells #[u0, u1, a2, a3, a4, a5, a6, a7] T (0, 0)) := by rw [cells_set h0 u1]; simp
  generalize (W.setCell ⟨q, 0, none⟩ u0).setCell ⟨q, 1, none⟩ u1 = W2 at *
  have h2 : (W2.setCell ⟨q, 2, none⟩ u2).heap[q]? = some (.cells #[u0, u1, u2, a3, a4, a5, a6, a7] T (0, 0)) := by rw [cells_set h1 u2]; simp
  have h3 : ((W2.setCell ⟨q, 2, none⟩ u2).setCell ⟨q, 3, none⟩ u3).heap[q]? = some (.cells #[u0, u1, u2, u3, a4, a5, a6, a7] T (0, 0)) := by rw [cells_set h2 u3]; simp
  generalize (W2.setCell ⟨q, 2, none⟩ u2).setCell ⟨q, 3, none⟩ u3 = W4 at *
  have h4 : (W4.setCell ⟨q, 4, none⟩ u4).heap[q]? = some (.cells #[u0, u1, u2, u3, u4, a5, a6, a7] T (0, 0)) := by rw [cells_set h3 u4]; simp
  have h5 : ((W4.setCell ⟨q, 4, none⟩ u4).setCell ⟨q, 5, none⟩ u5).heap[q]? = some (.cells #[u0, u1, u2, u3, u4, u5, a6, a7] T (0, 0)) := by rw [cells_set h4 u5]; simp
  generalize (W4.setCell ⟨q, 4, none⟩ u4).setCell ⟨q, 5, none⟩ u5 = W6 at *
  have h6 : (W6.setCell ⟨q, 6, none⟩ u6).heap[q]? = some (.cells #[u0, u1, u2, u3, u4, u5, u6, a7] T (0, 0)) := by rw [cells_set h5 u6]; simp
  rw [cells_set h6 u7]; simp
theorem resMid_alloc {wb w8 : World} {bf bm bi bx : Nat} {a : OpP} {A1 : AFam} {r : ResD} {S : Nat → Prop} (hx : w8.heap[bx]? = some (opBox a)) (hf : FamA w8 bf bm bi A1 S) (hS : ∀ k, S k → wb.heap.size ≤ k ∧ k < w8.heap.size) (hb : Below wb.heap.size wb w8) :
    ResMid wb bf bm bi bx a A1 r (.pointer (some ⟨w8.heap.size, 0, none⟩)) (w8.alloc (.cells r.cells 45)) :=
  ⟨_, S, rfl, (heap_alloc w8 _).1, hf.alloc _, fun k hk => by have := hS k hk; simp; omega, opBox_kept hx (balZ (Below.refl _ _) _), balZ hb _⟩
theorem resMid_set {wb W : World} {bf bm bi bx q : Nat} {a : OpP} {A1 : AFam} {r : ResD} {S : Nat → Prop} (hx : W.heap[bx]? = some (opBox a)) (hf : FamA W bf bm bi A1 S) (hS : ∀ k, S k → wb.heap.size ≤ k ∧ k < W.heap.size) (hb : Below wb.heap.size wb W)
    {a0 a1 a2 a3 a4 a5 a6 a7 : Value} (hz : W.heap[q]? = some (.cells #[a0, a1, a2, a3, a4, a5, a6, a7] 45 (0, 0))) (hq : bx ≠ q) (hqs : ¬ S q) (hqb : wb.heap.size ≤ q) :
    ResMid wb bf bm bi bx a A1 r (.pointer (some ⟨q, 0, none⟩)) ((((((((W.setCell ⟨q, 0, none⟩ (.int .i64 r.err)).setCell ⟨q, 1, none⟩ (.bool r.found)).setCell ⟨q, 2, none⟩ (.int .u64 r.value)).setCell ⟨q, 3, none⟩ (.string r.key)).setCell ⟨q, 4, none⟩ (.int .i64 r.count)).setCell ⟨q, 5, none⟩ (.int .i64 0)).setCell ⟨q, 6, none⟩ (.int .i64 0)).setCell ⟨q, 7, none⟩ (.bool false)) := by
  have ht := set8_turned W q (.int .i64 r.err) (.bool r.found) (.int .u64 r.value) (.string r.key) (.int .i64 r.count) (.int .i64 0) (.int .i64 0) (.bool false)
  exact ⟨q, S, rfl, set8_here hz _ _ _ _ _ _ _ _, hf.keep fun k hk hs => ht.block k fun e => hqs (e ▸ hs), fun k hk => by rw [ht.size]; exact hS k hk, (ht.block bx hq).trans hx, RecB.turned_below hb ht hqb⟩
set_option maxRecDepth 100000 in
set_option maxHeartbeats 4000000 in
theorem laccepts_any (w : World) (mask : Int) (m0 : 0 ≤ mask) (m1 : mask ≤ 18446744073709551615) (A B O : Option Addr) (c d co : Nat) (ts : List (List OpD)) (l : List EvD) (order : List OpP) (hA : ThrAt w A ts) (hB : EvsAt w B l) (hO : OrdAt w O order) (ft : ThrFit ts) (fe : EvsFit l) (hf : OrdFit order) (vt : ValT ts) (hn : order.length ≤ 1048576) (hcap : order.length ≤ co) (hco : co ≤ 4611686018427387904) :
    Calls Tryz.prog 7 #[.int .u64 mask, .slice A ts.length c, .slice B l.length d, .slice O order.length co] w fun e w' => e = .returned (.int .i64 (acceptsP mask ts l order)) ∧ Below w.heap.size w w' := by
  have HA := Lib.hid hA
  have HB := Lib.hid hB
  have HO := Lib.hid hO
  have FT := Lib.hid ft
  have FE := Lib.hid fe
  have HF := Lib.hid hf
  have VT := Lib.hid vt
  clear hA hB hO ft fe hf vt
  go_enter Tryz.func7, Tryz.ntmps7
  go_wp2_with (first | (go_at_call 12; refine stopAt ?_))
  unfold StopAt
  refine (hcheck_any w A B c d ts l HA.out HB.out FT.out FE.out).mono ?_
  rintro e w1 ⟨rfl, hb1⟩
  have B1 := Lib.hid hb1
  clear hb1
  by_cases hc : checkP (lens ts) l = 0
  case neg =>
    have R := Lib.hid (acc_check (mask := mask) (order := order) hc)
    have hcb : (checkP (lens ts) l != 0) = true := by simpa using hc
    generalize checkP (lens ts) l = q at *
    go_wp2_with fail
    go_ret
    exact ⟨ret_int R.out.symm, B1.out⟩
  have HC := Lib.hid hc
  rw [HC.out]
  clear hc
  go_wp2_with (first | (go_at_call 14; refine stopAt ?_))
  unfold StopAt
  refine (newrec_any w1 A B c d ts l (HA.out.below B1.out) (HB.out.below B1.out) FT.out FE.out (check_zero HC.out).2 (check_zero HC.out).1).mono ?_
  rintro e w2 ⟨rfl, hrec, hb2⟩
  have B2 := Lib.hid (B1.out.trans (hb2.mono B1.out.size))
  have RC := Lib.hid hrec
  generalize hrb : w1.heap.size = rb at *
  clear hrb hb2 hrec
  go_wp2_with (first | (go_at_call 15; refine stopAt ?_))
  unfold StopAt
  refine (ljustified_any w2 rb ts l RC.out).mono ?_
  rintro e w3 ⟨rfl, hb3⟩
  have B3 := Lib.hid (B2.out.trans (hb3.mono B2.out.size))
  have RC3 := Lib.hid (RC.out.below hb3)
  clear hb3
  cases he : excusedP ts l with
  | false =>
    have R := Lib.hid (acc_exc (mask := mask) (order := order) HC.out he)
    clear he
    go_wp2_with fail
    go_ret
    exact ⟨ret_int R.out.symm, B3.out⟩
  | true =>
  have HE := Lib.hid he
  clear he RC
  go_wp2_with (first | (go_at_call 19; refine stopAt ?_))
  unfold StopAt
  refine (lcontains_any w3 rb ts l RC3.out O co order (HO.out.below B3.out) HF.out hn).mono ?_
  rintro e w4 ⟨rfl, hb4⟩
  have B4 := Lib.hid (B3.out.trans (hb4.mono B3.out.size))
  have RC4 := Lib.hid (RC3.out.below hb4)
  clear hb4
  cases hm : membersP l order with
  | false =>
    have R := Lib.hid (acc_mem (mask := mask) HC.out HE.out hm)
    clear hm
    go_wp2_with fail
    go_ret
    exact ⟨ret_int R.out.symm, B4.out⟩
  | true =>
  have HM := Lib.hid hm
  clear hm RC3
  have EX := Lib.hid (fun (a : OpP) (ha : a ∈ order) => members_ex (check_zero HC.out).2 HM.out ha)
  go_wp2_with (first | (go_at_call 20; refine stopAt ?_))
  unfold StopAt
  refine (lordered_any w4 rb ts l RC4.out O co order (HO.out.below B4.out) EX.out hn hcap hco).mono ?_
  rintro e w5 ⟨rfl, hb5⟩
  have B5 := Lib.hid (B4.out.trans (hb5.mono B4.out.size))
  have RC5 := Lib.hid (RC4.out.below hb5)
  clear hb5
  cases ho : orderedB l order with
  | false =>
    have R := Lib.hid (acc_ord (mask := mask) HC.out HE.out HM.out (ordB_false ho))
    clear ho
    go_wp2_with fail
    go_ret
    exact ⟨ret_int R.out.symm, B5.out⟩
  | true =>
  have HD := Lib.hid (ordB_true ho)
  clear ho RC4
  go_wp2_with (first | (go_at_call 18; refine stopAt ?_))
  unfold StopAt
  refine (new_A w5 mask).mono ?_
  rintro e w6 ⟨rfl, hb6, hz6, hfam⟩
  have FA := Lib.hid hfam
  have B6 := Lib.hid hb6
  have LS : Hid (LaRel w5 ts l order (w5.heap.size + 3) w5.heap.size (w5.heap.size + 2) mask (.int .i64 0) w6) :=
    ⟨0, _, _, by omega, rfl, FA.out, fun k hk => by unfold blk4 at hk; omega, famO_ok mask m0 m1, val_O mask, by simp, B6.out⟩
  clear hb6 hz6 hfam FA
  go_wp2_with fail
  go_loopw [40] (fun i wr => LaRel w5 ts l order (w5.heap.size + 3) w5.heap.size (w5.heap.size + 2) mask i wr) (fun i _ => order.length - (intOf i).toNat)
  case atStart => exact LS.out
  case round =>
    clear LS B6
    obtain ⟨j, A0, S, hj, rfl, hfam, hS, hok, hval, hplay, hb⟩ := hrel
    have FA := Lib.hid hfam
    have HS := Lib.hid hS
    have OK := Lib.hid hok
    have VA := Lib.hid hval
    have PL := Lib.hid hplay
    have BR := Lib.hid hb
    clear hfam hS hok hval hplay hb
    generalize hbf : w5.heap.size + 3 = bf at *
    generalize hbi : w5.heap.size + 2 = bi at *
    clear hbf hbi
    by_cases hlt : j < order.length
    · obtain ⟨a, ha⟩ : ∃ a, order[j]? = some a := ⟨_, List.getElem?_eq_getElem hlt⟩
      have BQ := Lib.hid (B5.out.trans (BR.out.mono B5.out.size))
      obtain ⟨b, off, rfl, hbz, hc⟩ := HO.out (by omega)
      obtain ⟨c0, c1⟩ := hc j a ha
      have z0 := (BQ.out.cell (p := ⟨b, _, none⟩) hbz).trans c0
      have z1 := (BQ.out.cell (p := ⟨b, _, none⟩) hbz).trans c1
      have hj0 : (0 : Int) ≤ j := by omega
      have hj1 : (j : Int) < order.length := by omega
      obtain ⟨t, i, tt, o, rfl, ht, hoo, hop⟩ := exP_get (EX.out a (List.mem_of_getElem? ha))
      have HX := Lib.hid ha
      have HT := Lib.hid (And.intro ht hoo)
      have HP := Lib.hid hop
      have HK := Lib.hid (VT.out.key tt (List.mem_of_getElem? ht) o (List.mem_of_getElem? hoo))
      have HV := Lib.hid (VT.out.value tt (List.mem_of_getElem? ht) o (List.mem_of_getElem? hoo))
      have hil := (List.getElem?_eq_some_iff.1 hoo).1
      clear hc c0 c1 ha ht hoo hop
      simp only at z0 z1
      go_upto_region 15 with fail
      obtain ⟨W1, hW1⟩ : ∃ W1, W1 = wr.alloc (.cells #[.int .i64 t, .int .i64 i] 37) := ⟨_, rfl⟩
      have B2' : Hid (Below wr.heap.size wr W1) := by rw [hW1]; exact balZ (Below.refl _ _) _
      have KA : Hid (W1.heap[wr.heap.size]? = some (opBox ((t : Int), (i : Int)))) := by rw [hW1]; exact (heap_alloc wr _).1
      have BW1 := Lib.hid (BR.out.trans (B2'.out.mono BR.out.size))
      have FA1 := Lib.hid (FA.out.below B2'.out)
      have HS1 : Hid (∀ k, S k → w5.heap.size ≤ k ∧ k < wr.heap.size) := HS.out
      have RC6 := Lib.hid (RC5.out.below BW1.out)
      have hbx : wr.heap.size < W1.heap.size := (Array.getElem?_eq_some_iff.1 KA.out).1
      rw [← hW1]
      clear hW1 z0 z1
      generalize hbxe : wr.heap.size = bx at *
      obtain ⟨y0, y1⟩ := opBox_cells KA.out
      simp only at y0 y1
      have RF := Lib.hid (res_fit VA.out OK.out (by omega) t i o)
      have RV := Lib.hid (show (applyA A0 ((t : Int), (i : Int)).1 ((t : Int), (i : Int)).2 (opAt ts ((t : Int), (i : Int)))) = applyA A0 t i o by rw [HP.out])
      have OK1 := Lib.hid (OK.out.apply t i o)
      have VA1 := Lib.hid (VA.out.apply t i o HV.out)
      have BD : Hid (Below W1.heap.size W1 W1.drew) := (Below.refl _ _).drew
      have BE : Hid (Below W1.heap.size W1 (W1.alloc (.cells #[.int .i64 0, .bool false, .int .u64 0, .string ⟨#[]⟩, .int .i64 0, .int .i64 0, .int .i64 0, .bool false] 45)).drew) := (balZ (Below.refl _ _) _).drew
      have ZE : Hid ((W1.alloc (.cells #[.int .i64 0, .bool false, .int .u64 0, .string ⟨#[]⟩, .int .i64 0, .int .i64 0, .int .i64 0, .bool false] 45)).drew.heap[W1.heap.size]? = some (.cells #[.int .i64 0, .bool false, .int .u64 0, .string ⟨#[]⟩, .int .i64 0, .int .i64 0, .int .i64 0, .bool false] 45 (0, 0))) := (heap_alloc W1 _).1
      have OPC := Lib.hid (fun (W : World) (hW : Below W1.heap.size W1 W) => (lop_any W rb ts _ (RC6.out.below hW).at_ FT.out t i tt o HT.out.1 HT.out.2))
      have APC := Lib.hid (fun (W : World) (hW : Below W1.heap.size W1 W) => apply_A W bf w5.heap.size bi A0 S (j + 1) (by omega) (FA1.out.below hW) OK.out t i o HK.out)
      have KX : Hid (∀ W, Below W1.heap.size W1 W → (W.cell? ⟨bx, 0, none⟩ = some (.int .i64 t) ∧ W.cell? ⟨bx, 1, none⟩ = some (.int .i64 i))) := fun W hW => opBox_cells (opBox_kept KA.out hW)
      have KY : Hid (∀ W W', Below W1.heap.size W1 W → Only S W W' → W'.heap[bx]? = some (opBox ((t : Int), (i : Int)))) := fun W W' hW hO =>
        (hO.block bx (by have := hW.size; omega) fun hs => by have := (HS1.out bx hs).2; omega).trans (kept_block KA.out hW)
      have KZ : Hid (∀ W W' q, Below W1.heap.size W1 W → Only S W W' → W1.heap.size ≤ q → W.heap[q]? = some (.cells #[.int .i64 0, .bool false, .int .u64 0, .string ⟨#[]⟩, .int .i64 0, .int .i64 0, .int .i64 0, .bool false] 45 (0, 0)) → W'.heap[q]? = some (.cells #[.int .i64 0, .bool false, .int .u64 0, .string ⟨#[]⟩, .int .i64 0, .int .i64 0, .int .i64 0, .bool false] 45 (0, 0))) := fun W W' q hW hO hq hz =>
        (hO.block q (Array.getElem?_eq_some_iff.1 hz).1 fun hs => by have := (HS1.out q hs).2; omega).trans hz
      have BT : Hid (∀ W W', Below W1.heap.size W1 W → Only S W W' → Below w5.heap.size w5 W') := fun W W' hW hO => (BW1.out.trans (hW.mono BW1.out.size)).trans (hO.below (by have := BW1.out.size; have := hW.size; omega) fun k hk => (HS1.out k hk).1)
      have HFS : Hid (∀ W W' : World, Below W1.heap.size W1 W → W.heap.size ≤ W'.heap.size → ∀ k, (S k ∨ (W.heap.size ≤ k ∧ k < W'.heap.size)) → w5.heap.size ≤ k ∧ k < W'.heap.size) := fun W W' hW hle k hk => by
        have h1 := hW.size
        have h2 := BW1.out.size
        rcases hk with hk | hk
        · have := HS1.out k hk; omega
        · omega
      generalize hap : applyA A0 (t : Int) (i : Int) o = ap at *
      obtain ⟨A1, r⟩ := ap
      have HAP := Lib.hid hap
      clear hap
      have RFL := Lib.hid (resV_full r)
      obtain ⟨re, rf, rv, rk, rc⟩ := r
      simp only [ResD.cells, OpD.val] at APC
      go_cut [14] from 44 to 52 (fun v14 wx => ResMid w5 bf w5.heap.size bi bx ((t : Int), (i : Int)) A1 ⟨re, rf, rv, rk, rc⟩ v14 wx)
      case first =>
        go_region_held3 (fun W => (W.cell? ⟨bx, 0, none⟩ = some (.int .i64 t) ∧ W.cell? ⟨bx, 1, none⟩ = some (.int .i64 i))) (first | with_reducible exact KX.out _ BD.out | with_reducible exact KX.out _ BE.out | with_reducible exact KX.out _ X2.out | with_reducible exact KX.out _ (balZ X2.out _) | with_reducible exact opBox_cells X3.out | with_reducible exact opBox_cells (opBox_kept X3.out (balZ (Below.refl _ _) _)) | with_reducible exact opBox_cells (((set8_turned _ _ _ _ _ _ _ _ _ _).block bx N2.out).trans X3.out)) (first
          | ((go_at_call 22; (with_reducible refine (OPC.out _ BD.out).mono ?_); rintro e w7 ⟨rfl, hb7⟩; (have X2 := Lib.hid (BD.out.trans (hb7.mono BD.out.size))); (have N2 := Lib.hid (show bx ≠ w7.heap.size by have := X2.out.size; omega)); clear hb7))
          | ((go_at_call 22; (with_reducible refine (OPC.out _ BE.out).mono ?_); rintro e w7 ⟨rfl, hb7⟩; (have X2 := Lib.hid (BE.out.trans (hb7.mono BE.out.size))); (have N2 := Lib.hid (show bx ≠ W1.heap.size by omega)); (have Z2 := Lib.hid (kept_block ZE.out hb7)); clear hb7))
          | ((go_at_call 21; (with_reducible refine (APC.out _ X2.out).mono ?_); rintro e w8 ⟨rfl, hf8, ho8⟩; (have X3 := Lib.hid (KY.out _ _ X2.out ho8)); (have F8 := Lib.hid hf8); (have T8 := Lib.hid (BT.out _ _ X2.out ho8)); (have S8 := Lib.hid (HFS.out _ _ X2.out ho8.size)); (have Z8 := Lib.hid (KZ.out _ _ _ X2.out ho8 (Nat.le_refl _) Z2.out)); (have q0 := res_cells Z8.out); (have q1 := res_free Z8.out); clear hf8 ho8))
          | ((go_at_call 21; (with_reducible refine (APC.out _ X2.out).mono ?_); rintro e w8 ⟨rfl, hf8, ho8⟩; (have X3 := Lib.hid (KY.out _ _ X2.out ho8)); (have F8 := Lib.hid hf8); (have T8 := Lib.hid (BT.out _ _ X2.out ho8)); (have S8 := Lib.hid (HFS.out _ _ X2.out ho8.size)); clear hf8 ho8))
          | ((go_at_call 21; (with_reducible refine (APC.out _ (balZ X2.out _)).mono ?_); rintro e w8 ⟨rfl, hf8, ho8⟩; (have X3 := Lib.hid (KY.out _ _ (balZ X2.out _) ho8)); (have F8 := Lib.hid hf8); (have T8 := Lib.hid (BT.out _ _ (balZ X2.out _) ho8)); (have S8 := Lib.hid (HFS.out _ _ (balZ X2.out _) ho8.size)); (have Z8 := Lib.hid (KZ.out _ _ _ (balZ X2.out _) ho8 X2.out.size (heap_alloc w7 _).1)); (have q0 := res_cells Z8.out); (have q1 := res_free Z8.out); clear hf8 ho8)))
        all_goals (go_wp2_with fail; go_meet)
        · exact resMid_alloc X3.out F8.out S8.out T8.out
        · have z7 := X2.out.size
          have z1 := BW1.out.size
          refine resMid_set X3.out F8.out S8.out T8.out Z8.out N2.out (fun hk => ?_) (by omega)
          rcases hk with hk | hk
          · have := (HS1.out _ hk).2
            omega
          · exact absurd hk.1 (by simp)
        · have z7 := X2.out.size
          have z1 := BW1.out.size
          refine resMid_set X3.out F8.out S8.out T8.out Z8.out N2.out (fun hk => ?_) (by omega)
          rcases hk with hk | hk
          · have := (HS1.out _ hk).2
            omega
          · have := hk.1
            have := (Array.getElem?_eq_some_iff.1 Z2.out).1
            omega
      case rest =>
        obtain ⟨q, S2, rfl, hq, hf2, hs2, hbx2, hb2⟩ := hcut
        have Q2 := Lib.hid hq
        have FA2 := Lib.hid hf2
        have HS2 := Lib.hid hs2
        have KA2 := Lib.hid hbx2
        have BW2 := Lib.hid hb2
        have RC7 := Lib.hid (RC5.out.below BW2.out)
        clear hq hf2 hs2 hbx2 hb2 BD BE ZE OPC APC KX KY KZ BT HFS
        obtain ⟨y0, y1⟩ := opBox_cells KA2.out
        simp only at y0 y1
        have SPC := Lib.hid (fun W (hW : Below wc.heap.size wc W) => lspan_any W rb ts _ (RC7.out.below hW).at_ FT.out t i tt HT.out.1 hil)
        have SR := Lib.hid (fun r h => span_res l ((t : Int), (i : Int)) (r := r) h)
        have SI := Lib.hid (show (spanP l ((t : Int), (i : Int))).ret = whenP l ((t : Int), (i : Int)) true from rfl)
        generalize hs : spanP l ((t : Int), (i : Int)) = s at *
        clear hs
        obtain ⟨si, sr, ⟨e, f, v, k, c, r, x, y⟩⟩ := s
        simp only [SpD.val] at SPC
        go_wp2_with (first | (go_at_call 23; refine stopAt ?_))
        unfold StopAt
        refine (SPC.out _ (Below.refl _ _)).mono ?_
        rintro e2 w9 ⟨rfl, hb9⟩
        have B9 := Lib.hid hb9
        clear hb9 y0 y1
        go_upto_region 17 with fail
        obtain ⟨W5, hW5⟩ : ∃ W5, W5 = w9.alloc (.cells #[.int .i64 si, .int .i64 sr, .int .i64 e, .bool f, .int .u64 v, .string k, .int .i64 c, .int .i64 r, .int .i64 x, .bool y] 63) := ⟨_, rfl⟩
        have BX5 : Hid (Below wc.heap.size wc W5) := by rw [hW5]; exact balZ B9.out _
        have KS : Hid (W5.heap[w9.heap.size]? = some (.cells #[.int .i64 si, .int .i64 sr, .int .i64 e, .bool f, .int .u64 v, .string k, .int .i64 c, .int .i64 r, .int .i64 x, .bool y] 63 (0, 0))) := by rw [hW5]; exact (heap_alloc w9 _).1
        have Q5 := Lib.hid (kept_block Q2.out BX5.out)
        have BW5 := Lib.hid (BW2.out.trans (BX5.out.mono BW2.out.size))
        rw [← hW5]
        clear hW5
        generalize w9.heap.size = sb at *
        obtain ⟨q0, q1, q2, q3, q4, q5, q6, q7, q8, q9⟩ := sp_cells KS.out
        simp only [ResD.cells] at Q5
        obtain ⟨x0, x1, x2, x3, x4, x5, x6, x7⟩ := res_cells Q5.out
        have NX : Hid (playP ts l A0 (order.drop j) = playP ts l A1 (order.drop (j + 1)) → LaRel w5 ts l order bf w5.heap.size bi mask (.int .i64 ((j : Int) + 1)) W5) := fun hp =>
          ⟨j + 1, A1, S2, by omega, by go_num, FA2.out.below BX5.out, fun k hk => by have := HS2.out k hk; have := BX5.out.size; omega, OK1.out, VA1.out, PL.out.trans hp, BW5.out⟩
        cases hr : resultP l ((t : Int), (i : Int)) with
        | none =>
          have NY := Lib.hid (NX.out (by rw [playP_none HX.out hr, RV.out]))
          have hsr := SI.out.trans (result_none.1 hr)
          subst hsr
          clear hr
          go_wp2_with fail
          go_roundw
          case rel => exact NY.out
          case measure => simp [intOf]; omega
        | some want =>
          have RS := Lib.hid (SR.out want hr)
          have WF := Lib.hid (result_fit FE.out hr)
          have hsr : sr ≠ -1 := fun h => by rw [result_none.2 (SI.out.symm.trans h)] at hr; simp at hr
          have HR := Lib.hid hr
          have hsrb : (sr == -1) = false := by simpa using hsr
          have hsrc : (sr != -1) = true := by simpa using hsr
          clear hr
          by_cases heq : (⟨e, f, v, k, c, r, x, y⟩ : ResF) = ⟨re, rf, rv, rk, rc, 0, 0, false⟩
          · have NY := Lib.hid (NX.out ((playP_good HX.out HR.out (by rw [RV.out, ← RS.out]; exact heq.symm)).trans (by rw [RV.out])))
            simp only [ResF.mk.injEq] at heq
            obtain ⟨rfl, rfl, rfl, rfl, rfl, rfl, rfl, rfl⟩ := heq
            go_wp2_with fail
            go_roundw
            case rel => exact NY.out
            case measure => simp [intOf]; omega
          · have R := Lib.hid (acc_play HC.out HE.out HM.out HD.out (PL.out.trans (playP_bad HX.out HR.out (by rw [RV.out, ← RS.out]; exact fun h => heq h.symm))))
            have HN := Lib.hid heq
            have BT5 := Lib.hid (B5.out.trans (BW5.out.mono B5.out.size))
            clear heq
            go_wp2_with fail
            all_goals first
              | (go_ret; exact ⟨ret_int R.out.symm, BT5.out⟩)
              | (exfalso; exact HN.out (res_eq_of (by assumption) (by assumption) (by assumption) (by assumption) (by assumption) (by assumption) (by assumption) (by assumption)))
    · have hje : j = order.length := by omega
      have BT := Lib.hid (B5.out.trans (BR.out.mono B5.out.size))
      have R := Lib.hid (acc_ok HC.out HE.out HM.out HD.out (by rw [PL.out, hje, List.drop_length]; rfl))
      clear hje
      go_wp2_with fail
      go_ret
      exact ⟨ret_int R.out.symm, BT.out⟩
end Go.Proofs.YtbmoehndnbbhcaaGreatDoor
