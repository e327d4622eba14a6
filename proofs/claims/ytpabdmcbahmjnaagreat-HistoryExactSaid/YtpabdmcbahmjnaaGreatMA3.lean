/- Part of a proof: ZM ZW ZC ZMap ZRes ZD HL HMod. -/
import Derived.Test.YtpabdmcbahmjnaaGreatMA1
import Derived.Test.YtpabdmcbahmjnaaGreatMA2
import Derived.BigQuiet
import Derived.WideKeyMaps2
import Derived.WideKeyPair
import Derived.Test.YtpabdmcbahmjnaaGreatChecked
import Derived.DeepKeys
import Derived.DeepKeys5
import Derived.BigFrame
namespace Go.Proofs.YtpabdmcbahmjnaaGreat
open Go Go.RowKit
set_option linter.unusedSimpArgs false
set_option linter.unusedVariables false
def OpsAt (w : World) (u : Option Addr) (t : List OpD) : Prop :=
 0 < t.length → ∃ b off, u = some ⟨b, off, none⟩ ∧ b < w.heap.size ∧ ∀ k o, t[k]? = some o →
  w.cell? ⟨b, off + k * 5, none⟩ = some (.int .i64 o.kind) ∧ w.cell? ⟨b, off + k * 5 + 1, none⟩ = some (.int .i64 o.handle) ∧ w.cell? ⟨b, off + k * 5 + 2, none⟩ = some (.string o.key) ∧
  w.cell? ⟨b, off + k * 5 + 3, none⟩ = some (.int .u64 o.value) ∧ w.cell? ⟨b, off + k * 5 + 4, none⟩ = some (.int .u64 o.expect)
def ThrAt (w : World) (A : Option Addr) (ts : List (List OpD)) : Prop :=
 0 < ts.length → ∃ b off, A = some ⟨b, off, none⟩ ∧ b < w.heap.size ∧ ∀ i t, ts[i]? = some t → ∃ u c, w.cell? ⟨b, off + i, none⟩ = some (.slice u t.length c) ∧ OpsAt w u t
def ResF.cells (r : ResF) : List Value := [.int .i64 r.err, .bool r.found, .int .u64 r.value, .string r.key, .int .i64 r.count, .int .i64 r.ref, .int .i64 r.root, .bool r.ro]
def EvD.cells (e : EvD) : List Value := .int .i64 e.thread :: .int .i64 e.index :: .bool e.ret :: e.res.cells
def EvsAt (w : World) (A : Option Addr) (l : List EvD) : Prop :=
 0 < l.length → ∃ b off, A = some ⟨b, off, none⟩ ∧ b < w.heap.size ∧ ∀ k e, l[k]? = some e → ∀ j v, e.cells[j]? = some v → w.cell? ⟨b, off + k * 11 + j, none⟩ = some v
def OrdAt (w : World) (A : Option Addr) (l : List OpP) : Prop :=
 0 < l.length → ∃ b off, A = some ⟨b, off, none⟩ ∧ b < w.heap.size ∧ ∀ k a, l[k]? = some a → w.cell? ⟨b, off + k * 2, none⟩ = some (.int .i64 a.1) ∧ w.cell? ⟨b, off + k * 2 + 1, none⟩ = some (.int .i64 a.2)
theorem OpsAt.below {w W : World} {u : Option Addr} {t : List OpD} (h : OpsAt w u t) (hB : Below w.heap.size w W) : OpsAt W u t := fun h0 => by
 obtain ⟨b, off, e, hb, hc⟩ := h h0
 have k := fun i => hB.cell (p := ⟨b, i, none⟩) hb
 exact ⟨b, off, e, Nat.lt_of_lt_of_le hb hB.size, fun i o ho => by obtain ⟨c0, c1, c2, c3, c4⟩ := hc i o ho; exact ⟨(k _).trans c0, (k _).trans c1, (k _).trans c2, (k _).trans c3, (k _).trans c4⟩⟩
theorem ThrAt.below {w W : World} {A : Option Addr} {ts : List (List OpD)} (h : ThrAt w A ts) (hB : Below w.heap.size w W) : ThrAt W A ts := fun h0 => by
 obtain ⟨b, off, e, hb, hc⟩ := h h0
 exact ⟨b, off, e, Nat.lt_of_lt_of_le hb hB.size, fun i t ht => by obtain ⟨u, c, e1, e2⟩ := hc i t ht; exact ⟨u, c, (hB.cell (p := ⟨b, _, none⟩) hb).trans e1, e2.below hB⟩⟩
theorem EvsAt.below {w W : World} {A : Option Addr} {l : List EvD} (h : EvsAt w A l) (hB : Below w.heap.size w W) : EvsAt W A l := fun h0 => by
 obtain ⟨b, off, e, hb, hc⟩ := h h0
 exact ⟨b, off, e, Nat.lt_of_lt_of_le hb hB.size, fun k x hx j v hj => (hB.cell (p := ⟨b, _, none⟩) hb).trans (hc k x hx j v hj)⟩
theorem OrdAt.below {w W : World} {A : Option Addr} {l : List OpP} (h : OrdAt w A l) (hB : Below w.heap.size w W) : OrdAt W A l := fun h0 => by
 obtain ⟨b, off, e, hb, hc⟩ := h h0
 exact ⟨b, off, e, Nat.lt_of_lt_of_le hb hB.size, fun k a ha => by obtain ⟨c0, c1⟩ := hc k a ha; exact ⟨(hB.cell (p := ⟨b, _, none⟩) hb).trans c0, (hB.cell (p := ⟨b, _, none⟩) hb).trans c1⟩⟩
end Go.Proofs.YtpabdmcbahmjnaaGreat
namespace Go.Proofs.YtpabdmcbahmjnaaGreat
open Go Go.RowKit Go.MapKept
set_option linter.unusedSimpArgs false
set_option linter.unusedVariables false
def EvD.is (e : EvD) (a : OpP) (back : Bool) : Prop := e.thread = a.1 ∧ e.index = a.2 ∧ e.ret = back
theorem when_hit {l : List EvD} {a : OpP} {b : Bool} {j : Nat} {e : EvD} (hj : l[j]? = some e) (he : e.is a b) (h : ∀ k x, k < j → l[k]? = some x → ¬ x.is a b) : whenP l a b = j := by
 obtain ⟨hlt, e1⟩ := List.getElem?_eq_some_iff.1 hj
 have hf : l.findIdx? (fun e => e.thread == a.1 && e.index == a.2 && e.ret == b) = some j := by
  refine List.findIdx?_eq_some_iff_getElem.2 ⟨hlt, ?_, fun k hk => ?_⟩
  ·obtain ⟨h1, h2, h3⟩ := he
   simp [e1, h1, h2, h3]
  ·have := h k l[k] hk (List.getElem?_eq_getElem (by omega))
   unfold EvD.is at this
   simp only [Bool.and_eq_true, beq_iff_eq, and_assoc]
   simpa using this
 unfold whenP
 rw [hf]
theorem when_miss {l : List EvD} {a : OpP} {b : Bool} (h : ∀ k x, k < l.length → l[k]? = some x → ¬ x.is a b) : whenP l a b = -1 := by
 have hf : l.findIdx? (fun e => e.thread == a.1 && e.index == a.2 && e.ret == b) = none := by
  refine List.findIdx?_eq_none_iff.2 fun x hx => ?_
  obtain ⟨k, hk, e⟩ := List.getElem_of_mem hx
  have := h k x hk (by rw [List.getElem?_eq_getElem hk, e])
  unfold EvD.is at this
  rw [Bool.eq_false_iff]
  simp only [ne_eq, Bool.and_eq_true, beq_iff_eq, and_assoc]
  exact this
 unfold whenP
 rw [hf]
theorem below_drewN {B : Nat} {a b : World} (h : Below B a b) (n : Nat) : Below B a (b.drewN n) := ⟨h.os, h.tape, h.output, h.size, h.block⟩
def WhRel (l : List EvD) (a : OpP) (b : Bool) (i : Value) : Prop := ∃ j : Nat, j ≤ l.length ∧ i = .int .i64 j ∧ ∀ k x, k < j → l[k]? = some x → ¬ x.is a b
theorem ev_cells {w : World} {b off : Nat} {e : EvD} {k : Nat} (h : ∀ j v, e.cells[j]? = some v → w.cell? ⟨b, off + k * 11 + j, none⟩ = some v) :
  w.cell? ⟨b, off + k * 11, none⟩ = some (.int .i64 e.thread) ∧ w.cell? ⟨b, off + k * 11 + 1, none⟩ = some (.int .i64 e.index) ∧ w.cell? ⟨b, off + k * 11 + 2, none⟩ = some (.bool e.ret) :=
 ⟨h 0 _ rfl, h 1 _ rfl, h 2 _ rfl⟩
set_option maxHeartbeats 1000000 in
theorem when_any (w : World) (A : Option Addr) (c : Nat) (l : List EvD) (hl : l.length ≤ 1048576) (h : EvsAt w A l) (x y : Int) (back : Bool) :
  Calls Tryz.prog 50 #[.slice A l.length c, .agg #[.int .i64 x, .int .i64 y], .bool back] w fun e w' => e = .returned (.int .i64 (whenP l (x, y) back)) ∧ Below w.heap.size w w' := by
 have HM := Lib.hid h
 clear h
 go_enter Tryz.func50, Tryz.ntmps50
 go_wp2_with fail
 obtain ⟨W0, hW0⟩ : ∃ W0, W0 = w.alloc (.cells #[.int .i64 x, .int .i64 y] 44) := ⟨_, rfl⟩
 have BX : Hid (Below w.heap.size w W0) := by rw [hW0]; exact (Below.refl w.heap.size w).alloc (Nat.le_refl _) _
 have KX : Hid (∀ W, Below W0.heap.size W0 W → W.cell? ⟨w.heap.size, 0, none⟩ = some (.int .i64 x) ∧ W.cell? ⟨w.heap.size, 1, none⟩ = some (.int .i64 y)) := by
  have hk : W0.heap[w.heap.size]? = some (.cells #[.int .i64 x, .int .i64 y] 44 (0, 0)) := by rw [hW0]; exact (heap_alloc w _).1
  exact fun W hb => ⟨blk_cell ((hb.block _ (Array.getElem?_eq_some_iff.1 hk).1).trans hk) 0, blk_cell ((hb.block _ (Array.getElem?_eq_some_iff.1 hk).1).trans hk) 1⟩
 rw [← hW0]
 have HM0 := Lib.hid (HM.out.below BX.out)
 clear hW0 HM
 go_loopw [7] (fun i wr => WhRel l (x, y) back i ∧ Below W0.heap.size W0 wr) (fun i _ => l.length - (intOf i).toNat)
 case atStart => exact ⟨⟨0, by omega, rfl, fun k x hk => by omega⟩, Below.refl _ _⟩
 case round =>
  obtain ⟨⟨j, hj, rfl, hne⟩, hbr⟩ := hrel
  have NE := Lib.hid hne
  have BR := Lib.hid hbr
  have BE := Lib.hid (BX.out.trans (BR.out.mono BX.out.size))
  obtain ⟨y0, y1⟩ := KX.out _ hbr
  clear hne hbr
  by_cases hlt : j < l.length
  ·obtain ⟨e, hx⟩ : ∃ e, l[j]? = some e := ⟨_, List.getElem?_eq_getElem hlt⟩
   obtain ⟨b, off, rfl, hb, hc⟩ := (HM0.out.below BR.out) (by omega)
   obtain ⟨c0, c1, c2⟩ := ev_cells (hc j e hx)
   have hj0 : (0 : Int) ≤ j := by omega
   have hj1 : (j : Int) < l.length := by omega
   have HX := Lib.hid hx
   clear hx hc
   by_cases hm : e.is (x, y) back
   ·have R := Lib.hid (when_hit HX.out hm NE.out)
    obtain ⟨h1, h2, h3⟩ := hm
    have b1 : (e.thread == x) = true := by simpa using h1
    have b2 : (e.index == y) = true := by simpa using h2
    have b3 : (e.ret == back) = true := by simpa using h3
    clear h1 h2 h3
    go_wp2_with fail
    go_quiet (fail)
    go_wp2_with fail
    go_ret
    exact ⟨by rw [R.out]; rfl, (below_drewN BE.out _)⟩
   ·have NX : Hid (∀ k z, k < j + 1 → l[k]? = some z → ¬ z.is (x, y) back) := fun k z hk hz => by
     by_cases hkj : k = j
     ·subst hkj
      rw [HX.out] at hz
      obtain rfl := Option.some.inj hz
      exact hm
     ·exact NE.out k z (by omega) hz
    have h3 : (e.thread == x) = false ∨ ((e.thread == x) = true ∧ (e.index == y) = false) ∨ ((e.thread == x) = true ∧ (e.index == y) = true ∧ (e.ret == back) = false) := by
     unfold EvD.is at hm
     by_cases h1 : e.thread = x
     ·by_cases h2 : e.index = y
      ·exact Or.inr (Or.inr ⟨by simpa using h1, by simpa using h2, by simpa using fun h3 => hm ⟨h1, h2, h3⟩⟩)
      ·exact Or.inr (Or.inl ⟨by simpa using h1, by simpa using h2⟩)
     ·exact Or.inl (by simpa using h1)
    clear hm
    rcases h3 with b1 | ⟨b1, b2⟩ | ⟨b1, b2, b3⟩
    all_goals
     go_wp2_with fail
     go_quiet (fail)
     go_wp2_with fail
     go_roundw
     case rel => exact ⟨⟨j + 1, by omega, by go_num, NX.out⟩, (below_drewN BR.out _)⟩
     case measure => simp [intOf]; omega
  ·obtain rfl : j = l.length := by omega
   have R := Lib.hid (when_miss NE.out)
   go_wp2_with fail
   go_ret
   exact ⟨by rw [R.out]; rfl, BE.out⟩
end Go.Proofs.YtpabdmcbahmjnaaGreat
namespace Go.Proofs.YtpabdmcbahmjnaaGreat
set_option linter.unusedSimpArgs false
set_option linter.unusedVariables false
def BigP (ops : List Nat) : Prop := 8 < ops.length ∨ ∃ n ∈ ops, 16 < n
open Classical in
noncomputable def checkP (ops : List Nat) (l : List EvD) : Int := if BigP ops then 3 else if ProperP ops l then 0 else 1
theorem check_big {ops : List Nat} {l : List EvD} (h : BigP ops) : checkP ops l = 3 := if_pos h
theorem check_bad {ops : List Nat} {l : List EvD} (h : ¬ BigP ops) (hp : ¬ ProperP ops l) : checkP ops l = 1 := by unfold checkP; rw [if_neg h, if_neg hp]
theorem check_ok {ops : List Nat} {l : List EvD} (h : ¬ BigP ops) (hp : ProperP ops l) : checkP ops l = 0 := by unfold checkP; rw [if_neg h, if_pos hp]
def cnts (n : Nat) (l : List EvD) (i : Nat) : List Nat := (List.range n).map fun (t : Nat) => cntT l i (t : Int)
theorem cnts_len (n : Nat) (l : List EvD) (i : Nat) : (cnts n l i).length = n := by simp [cnts]
theorem cnts_get {n : Nat} {l : List EvD} {i t : Nat} (ht : t < n) : (cnts n l i)[t]? = some (cntT l i (t : Int)) := by simp [cnts, ht]
theorem cnts_zero (n : Nat) (l : List EvD) : cnts n l 0 = List.replicate n 0 := by
 apply List.ext_getElem?
 intro i
 by_cases h : i < n
 ·rw [cnts_get h, List.getElem?_replicate]; simp [h, cntT]
 ·rw [List.getElem?_eq_none (by simp [cnts_len]; omega), List.getElem?_eq_none (by simp; omega)]
theorem cnts_succ {n : Nat} {l : List EvD} {i : Nat} {e : EvD} {t : Nat} (hi : l[i]? = some e) (he : e.thread = t) (ht : t < n) : cnts n l (i + 1) = (cnts n l i).set t (cntT l i t + 1) := by
 apply List.ext_getElem?
 intro k
 rw [List.getElem?_set]
 by_cases hk : k < n
 ·rw [cnts_get hk, cntT_succ hi]
  by_cases hkt : t = k
  ·subst hkt; simp [he, cnts_len, ht]
  ·rw [if_neg hkt, cnts_get hk, if_neg (by rw [he]; omega)]; simp
 ·rw [List.getElem?_eq_none (by simp [cnts_len]; omega)]
  by_cases hkt : t = k
  ·omega
  ·rw [if_neg hkt, List.getElem?_eq_none (by simp [cnts_len]; omega)]
theorem cntT_le (l : List EvD) (i : Nat) (t : Int) : cntT l i t ≤ i := by
 unfold cntT
 refine Nat.le_trans (List.length_filter_le _ _) ?_
 rw [List.length_take]; omega
def resultP (l : List EvD) (a : OpP) : Option ResF := if whenP l a true < 0 then none else (l[(whenP l a true).toNat]?).map (·.res)
def beforeP (l : List EvD) (a b : OpP) : Bool := decide (0 ≤ whenP l a true) && decide (whenP l a true < whenP l b false)
def invokedP (l : List EvD) : List OpP := (List.range l.length).filterMap fun i => match l[i]? with
 | some e => if e.ret = false ∧ whenP l e.op false = i then some e.op else none
 | none => none
end Go.Proofs.YtpabdmcbahmjnaaGreat
namespace Go.Proofs.YtpabdmcbahmjnaaGreat
open Go Go.RowKit Go.MapKept Go.WideMaps
open Go.ChangeMaps (setBlock modify_eq_set)
set_option linter.unusedSectionVars false
set_option linter.unusedSimpArgs false
set_option linter.unusedVariables false
section
variable {κ β : Type} [DecidableEq κ]
structure KeyOk (P : Program) (k : TypeId) (kk : κ → Value) (S : κ → Prop) : Prop where
 law : KeyLaw P k
 lit : ∀ x, S x → ∃ l, keyOf P k (kk x) = some l
 inj : ∀ x y, kk x = kk y → x = y
def MapW (w : World) (r : Nat) (kk : κ → Value) (f : β → Value) (S : κ → Prop) (L : List (κ × β)) : Prop :=
 ∃ es clock, w.heap[r]? = some (.map es clock) ∧ Stamped es clock ∧ (∀ p ∈ L, S p.1) ∧ es.toList.map (fun e => (e.key, e.val)) = L.map (fun p => (kk p.1, f p.2))
variable {P : Program} {w : World} {r : Nat} {k : TypeId} {kk : κ → Value} {f : β → Value} {S : κ → Prop} {L : List (κ × β)}
theorem MapW.lt (h : MapW w r kk f S L) : r < w.heap.size := by
 obtain ⟨es, clock, hb, _⟩ := h
 exact (Array.getElem?_eq_some_iff.1 hb).1
theorem MapW.of_block {w' : World} (h : MapW w r kk f S L) (hb : w'.heap[r]? = w.heap[r]?) : MapW w' r kk f S L := by
 obtain ⟨es, clock, h1, h2⟩ := h
 exact ⟨es, clock, hb.trans h1, h2⟩
theorem MapW.made (w : World) (kk : κ → Value) (f : β → Value) (S : κ → Prop) : MapW (w.alloc (.map #[] 0)) w.heap.size kk f S [] :=
 ⟨#[], 0, (heap_alloc w _).1, stamped_empty _, by simp, by simp⟩
theorem MapW.nodup (K : KeyOk P k kk S) (h : MapW w r kk f S L) : (L.map (·.1)).Nodup := by
 obtain ⟨es, clock, hb, hs, hk, hL⟩ := h
 have h3 : (es.toList.map (·.key)).Nodup := hs.2.2
 have e1 : es.toList.map (·.key) = (L.map (·.1)).map kk := by
  have := congrArg (List.map Prod.fst) hL
  simpa [List.map_map, Function.comp_def] using this
 rw [e1] at h3
 have hp : ∀ l : List κ, (l.map kk).Nodup → l.Nodup := by
  intro l
  induction l with
  | nil => intro _; exact List.nodup_nil
  | cons a t ih =>
   intro h
   simp only [List.map_cons, List.nodup_cons] at h ⊢
   exact ⟨fun hm => h.1 (List.mem_map.2 ⟨a, hm, rfl⟩), ih h.2⟩
 exact hp _ h3
theorem MapW.find (K : KeyOk P k kk S) (w : World) {es : Array MapEntry} (hS : ∀ p ∈ L, S p.1) (hL : es.toList.map (fun e => (e.key, e.val)) = L.map (fun p => (kk p.1, f p.2))) (x : κ) (hx : S x) :
  ((Instr.findKey k (kk x) es.toList).run P w = .ok none w ∧ (∀ e ∈ es.toList, e.key ≠ kk x) ∧ ∀ p ∈ L, p.1 ≠ x) ∨
  ∃ j e b, (Instr.findKey k (kk x) es.toList).run P w = .ok (some (j, f b)) w ∧ es[j]? = some e ∧ e.key = kk x ∧ e.val = f b ∧ L[j]? = some (x, b) := by
 obtain ⟨lx, hlx⟩ := K.lit x hx
 have hkeys : ∀ e ∈ es.toList, ∃ l, keyOf P k e.key = some l := fun e he => by
  have : (e.key, e.val) ∈ L.map (fun p => (kk p.1, f p.2)) := by rw [← hL]; exact List.mem_map.2 ⟨e, he, rfl⟩
  obtain ⟨p, hp, hpe⟩ := List.mem_map.1 this
  simp only [Prod.mk.injEq] at hpe
  rw [← hpe.1]
  exact K.lit p.1 (hS p hp)
 rcases K.law.find w hlx es.toList hkeys with ⟨h1, h2⟩ | ⟨j, e, h1, h2, h3⟩
 ·refine .inl ⟨h1, h2, fun p hp he => ?_⟩
  have hm : (kk p.1, f p.2) ∈ es.toList.map (fun e => (e.key, e.val)) := hL ▸ List.mem_map.2 ⟨p, hp, rfl⟩
  obtain ⟨y, hy, hye⟩ := List.mem_map.1 hm
  simp only [Prod.mk.injEq] at hye
  exact h2 y hy (by rw [hye.1, he])
 ·have hg := congrArg (fun l => l[j]?) hL
  simp only [List.getElem?_map, h2, Option.map_some] at hg
  cases hl : L[j]? with
  | none => rw [hl] at hg; simp at hg
  | some p =>
   rw [hl] at hg
   simp only [Option.map_some, Option.some.injEq, Prod.mk.injEq] at hg
   have hp : p.1 = x := K.inj _ _ (hg.1.symm.trans h3)
   obtain ⟨a, b⟩ := p
   simp only at hp hg
   subst hp
   exact .inr ⟨j, e, b, by rw [h1, hg.2], by simpa using h2, h3, hg.2, hl⟩
theorem MapW.lookup (K : KeyOk P k kk S) {mt et : TypeId} (hm : P.underlying mt = some (.map k et)) {z : Value} (hz : (zeroValue et).run P w = .ok z w)
  (h : MapW w r kk f S L) (x : κ) (hx : S x) (c : Bool) :
  (Instr.lookup mt (.map (some r)) (kk x) c).run P w = .ok (if c then .tuple #[outOf z f (alook L x), .bool (alook L x).isSome] else outOf z f (alook L x)) w := by
 have hn := h.nodup K
 obtain ⟨es, clock, hb, hs, hS, hL⟩ := h
 obtain ⟨lx, hlx⟩ := K.lit x hx
 rcases MapW.find K w hS hL x hx with ⟨h1, h2, h3⟩ | ⟨j, e, b, h1, h2, h3, h4, h5⟩
 ·rw [alook_none h3]
  cases c <;> simp [Instr.lookup, run_underlying hm, MapKept.run_getObj_map hb, K.law.check w _ hlx, h1, hz, outOf, Result.andThen]
 ·rw [(assoc_at hn h5).1]
  cases c <;> simp [Instr.lookup, run_underlying hm, MapKept.run_getObj_map hb, K.law.check w _ hlx, h1, outOf, Result.andThen]
theorem MapW.update (K : KeyOk P k kk S) {mt et : TypeId} (hm : P.underlying mt = some (.map k et)) (h : MapW w r kk f S L) (x : κ) (hx : S x) (v : β) :
  ∃ o, (Instr.mapUpdate mt (.map (some r)) (kk x) (f v)).run P w = .ok () (setBlock w r o) ∧ MapW (setBlock w r o) r kk f S (aset L x v) := by
 have hn := h.nodup K
 obtain ⟨es, clock, hb, hs, hS, hL⟩ := h
 obtain ⟨lx, hlx⟩ := K.lit x hx
 have hS' : ∀ p ∈ aset L x v, S p.1 := fun p hp => by
  rcases aset_mem hp with rfl | hp
  ·exact hx
  ·exact hS p hp
 rcases MapW.find K w hS hL x hx with ⟨h1, h2, h3⟩ | ⟨j, e, b, h1, h2, h3, h4, h5⟩
 ·refine ⟨.map (es.push { key := kk x, val := f v, born := clock }) (clock + 1), ?_, ?_⟩
  ·simp [Instr.mapUpdate, run_underlying hm, MapKept.run_getObj_map hb, K.law.check w false hlx, h1, MapKept.run_setObj_map _ hb, Result.andThen, setBlock]
  ·rw [aset_new h3] at hS' ⊢
   exact ⟨_, _, (heap_set hb).1, stamped_push hs h2, hS', by simp [hL]⟩
 ·have h2' : es.toList[j]? = some e := by simpa using h2
  have hkeyf : ∀ e', es[j]? = some e' → ({ e' with key := kk x, val := f v } : MapEntry).key = e'.key := fun e' he' => by rw [h2] at he'; cases he'; exact h3.symm
  refine ⟨.map (es.modify j (fun e' => { e' with key := kk x, val := f v })) clock, ?_, ?_⟩
  ·simp [Instr.mapUpdate, run_underlying hm, MapKept.run_getObj_map hb, K.law.check w false hlx, h1, h2, h3, K.law.stays w hlx, MapKept.run_setObj_map _ hb, Result.andThen, setBlock]
  ·rw [(assoc_at hn h5).2.1 v] at hS' ⊢
   refine ⟨_, _, (heap_set hb).1, stamped_modify hs _ _ (fun _ _ => rfl) (fun e' _ he' => hkeyf e' he'), hS', ?_⟩
   rw [Array.toList_modify, modify_eq_set _ _ _ _ h2', List.map_set, List.map_set, hL]
end
def opV (a : Int × Int) : Value := .agg #[.int .i64 a.1, .int .i64 a.2]
def OpFit (a : Int × Int) : Prop := (-9223372036854775808 ≤ a.1 ∧ a.1 ≤ 9223372036854775807) ∧ (-9223372036854775808 ≤ a.2 ∧ a.2 ≤ 9223372036854775807)
theorem arr_key : ArrKey Tryz.prog 44 3 2 := ⟨Tryz.underlying44, by kernel_rfl, by kernel_rfl, by kernel_rfl⟩
theorem wf_i64 {z : Int} (h : -9223372036854775808 ≤ z ∧ z ≤ 9223372036854775807) : (Lit.int .i64 z).wf = true := by simpa [Lit.wf, IntKind.min, IntKind.max, IntKind.signed, IntKind.bits] using h
theorem opKey : KeyOk Tryz.prog 44 opV OpFit where
 law := arr_key.law
 lit := fun x hx => ⟨_, keyOf_pair arr_key Tryz.underlying3 ⟨Tryz.prog.types.size - 1, by kernel_rfl⟩ (wf_i64 hx.1) (wf_i64 hx.2)⟩
 inj := fun x y h => by
  simp [opV] at h
  exact Prod.ext h.1 h.2
end Go.Proofs.YtpabdmcbahmjnaaGreat
namespace Go.Proofs.YtpabdmcbahmjnaaGreat
open Go Go.RowKit Go.WideMaps Go.WideShapes
set_option linter.unusedSimpArgs false
set_option linter.unusedVariables false
def I64 (z : Int) : Prop := -9223372036854775808 ≤ z ∧ z ≤ 9223372036854775807
structure ResF.Fit (r : ResF) : Prop where
 err : I64 r.err
 value : 0 ≤ r.value ∧ r.value ≤ 18446744073709551615
 key : r.key.size ≤ maxLen
 count : I64 r.count
 ref : I64 r.ref
 root : I64 r.root
def resV (r : ResF) : Value := .agg #[.int .i64 r.err, .bool r.found, .int .u64 r.value, .string r.key, .int .i64 r.count, .int .i64 r.ref, .int .i64 r.root, .bool r.ro]
theorem resT_cells : Tryz.prog.cellsOf 56 = 8 := by kernel_rfl
theorem trie_cells : Tryz.prog.cellsOf 54 = 2 := by kernel_rfl
theorem err_cells : Tryz.prog.cellsOf 24 = 1 := by kernel_rfl
theorem ref_cells : Tryz.prog.cellsOf 51 = 1 := by kernel_rfl
theorem cell_cells : Tryz.prog.cellsOf 52 = 1 := by kernel_rfl
theorem bool_cells : Tryz.prog.cellsOf 4 = 1 := by kernel_rfl
theorem int_cells : Tryz.prog.cellsOf 3 = 1 := by kernel_rfl
theorem str_cells : Tryz.prog.cellsOf 9 = 1 := by kernel_rfl
theorem u64_cells : Tryz.prog.cellsOf 27 = 1 := by kernel_rfl
theorem zero_fit : ResF.zero.Fit := ⟨by unfold I64; decide, by decide, by unfold maxLen; decide, by unfold I64; decide, by unfold I64; decide, by unfold I64; decide⟩
end Go.Proofs.YtpabdmcbahmjnaaGreat
namespace Go.Proofs.YtpabdmcbahmjnaaGreat
set_option linter.unusedSimpArgs false
set_option linter.unusedVariables false
theorem when_spec (l : List EvD) (a : OpP) (b : Bool) : (whenP l a b = -1 ∧ ∀ (k : Nat) (x : EvD), l[k]? = some x → ¬ x.is a b) ∨ ∃ (i : Nat) (e : EvD), l[i]? = some e ∧ e.is a b ∧ whenP l a b = (i : Nat) ∧ ∀ (k : Nat) (x : EvD), k < i → l[k]? = some x → ¬ x.is a b := by
 by_cases h : ∃ (i : Nat) (e : EvD), l[i]? = some e ∧ e.is a b
 ·right
  have key : ∀ (n i : Nat) (e : EvD), l[i]? = some e → e.is a b → i ≤ n → ∃ (i : Nat) (e : EvD), l[i]? = some e ∧ e.is a b ∧ ∀ (k : Nat) (x : EvD), k < i → l[k]? = some x → ¬ x.is a b := by
   intro n
   induction n with
   | zero => exact fun i e hi he hn => ⟨i, e, hi, he, fun k x hk => by omega⟩
   | succ n ih =>
    intro i e hi he hn
    by_cases hx : ∃ (k : Nat) (x : EvD), k < i ∧ l[k]? = some x ∧ x.is a b
    ·obtain ⟨k, x, hk, hx, hxx⟩ := hx
     exact ih k x hx hxx (by omega)
    ·exact ⟨i, e, hi, he, fun k x hk hx' hxx => hx ⟨k, x, hk, hx', hxx⟩⟩
  obtain ⟨i, e, hi, he⟩ := h
  obtain ⟨j, f, hj, hf, hm⟩ := key i i e hi he (Nat.le_refl _)
  exact ⟨j, f, hj, hf, when_hit hj hf hm, hm⟩
 ·left
  have hn : ∀ (k : Nat) (x : EvD), l[k]? = some x → ¬ x.is a b := fun k x hx hxx => h ⟨k, x, hx, hxx⟩
  exact ⟨when_miss fun k x _ hx => hn k x hx, hn⟩
theorem when_lo (l : List EvD) (a : OpP) (b : Bool) : -1 ≤ whenP l a b := by
 rcases when_spec l a b with ⟨h, _⟩ | ⟨i, e, _, _, h, _⟩ <;> rw [h] <;> omega
theorem when_hi (l : List EvD) (a : OpP) (b : Bool) : whenP l a b < l.length := by
 rcases when_spec l a b with ⟨h, _⟩ | ⟨i, e, hi, _, h, _⟩
 ·rw [h]; omega
 ·rw [h]; have := (List.getElem?_eq_some_iff.1 hi).1; omega
theorem EvD.is_self (e : EvD) : e.is e.op e.ret := ⟨rfl, rfl, rfl⟩
theorem EvD.is.is_op {e : EvD} {a : OpP} {b : Bool} (h : e.is a b) : e.op = a := Prod.ext h.1 h.2.1
theorem when_nat {l : List EvD} {a : OpP} {b : Bool} (h : whenP l a b ≠ -1) : ∃ (i : Nat) (e : EvD), l[i]? = some e ∧ e.is a b ∧ whenP l a b = (i : Nat) := by
 rcases when_spec l a b with ⟨h', _⟩ | ⟨i, e, hi, he, hw, _⟩
 ·exact absurd h' h
 ·exact ⟨i, e, hi, he, hw⟩
def ExP (ops : List Nat) (a : OpP) : Prop := 0 ≤ a.1 ∧ 0 ≤ a.2 ∧ a.2 < ((ops[a.1.toNat]?.getD 0 : Nat) : Int)
instance (ops : List Nat) (a : OpP) : Decidable (ExP ops a) := by unfold ExP; infer_instance
theorem mem_invoked {l : List EvD} {a : OpP} : a ∈ invokedP l ↔ whenP l a false ≠ -1 := by
 unfold invokedP
 rw [List.mem_filterMap]
 constructor
 ·rintro ⟨i, _, h⟩
  split at h
  ·split at h
   ·rename_i e he hc
    obtain rfl := Option.some.inj h
    rw [hc.2]; omega
   ·exact absurd h (by simp)
  ·exact absurd h (by simp)
 ·intro h
  obtain ⟨i, e, hi, he, hw⟩ := when_nat h
  have hlt := (List.getElem?_eq_some_iff.1 hi).1
  refine ⟨i, by simpa using hlt, ?_⟩
  have ho := he.is_op
  simp only [hi]
  rw [if_pos ⟨he.2.2, by rw [ho]; exact hw⟩, ho]
theorem result_none {l : List EvD} {a : OpP} : resultP l a = none ↔ whenP l a true = -1 := by
 unfold resultP
 have := when_lo l a true
 constructor
 ·intro h
  by_cases hw : whenP l a true < 0
  ·omega
  ·rw [if_neg hw] at h
   obtain ⟨i, e, hi, _, hw'⟩ := when_nat (l := l) (a := a) (b := true) (by omega)
   rw [hw', Int.toNat_natCast, hi] at h
   exact absurd h (by simp)
 ·intro h; rw [if_pos (by omega)]
def pendingP (l : List EvD) : List OpP := (invokedP l).filter fun a => decide (whenP l a true < 0)
def threadP (l : List EvD) (t : Int) : List EvD := l.filter fun e => e.thread == t
theorem before_iff {l : List EvD} {a b : OpP} : beforeP l a b = true ↔ 0 ≤ whenP l a true ∧ whenP l a true < whenP l b false := by simp [beforeP]
end Go.Proofs.YtpabdmcbahmjnaaGreat
namespace Go.Proofs.YtpabdmcbahmjnaaGreat
open Go Go.RowKit
set_option linter.unusedSimpArgs false
set_option linter.unusedVariables false
theorem mod_any (w : World) (v n : Int) (v0 : -9223372036854775808 ≤ v) (v1 : v ≤ 9223372036854775807) (n0 : 0 < n) (n1 : n ≤ 1048577) :
  Calls Tryz.prog 10 #[.int .i64 v, .int .i64 n] w fun e w' => ∃ k : Int, e = .returned (.int .i64 k) ∧ 0 ≤ k ∧ k < n ∧ Below w.heap.size w w' := by
 have hm0 : 0 ≤ (v % 18446744073709551616) % n := Int.emod_nonneg _ (by omega)
 have hm1 : (v % 18446744073709551616) % n < n := Int.emod_lt_of_pos _ n0
 have hu : IntKind.u64.wrap v = v % 18446744073709551616 := by simp [IntKind.wrap, IntKind.bits, IntKind.signed]
 have he : wrap64 ((IntKind.u64.wrap v).tmod n) = (v % 18446744073709551616) % n := by
  rw [hu, Int.tmod_eq_emod_of_nonneg (Int.emod_nonneg _ (by omega))]
  exact IntWalk.wrap64_in _ (by omega)
 go_enter Tryz.func10, Tryz.ntmps10
 go_wp2_with fail
 go_ret
 exact ⟨_, rfl, hm0, hm1, Below.refl _ _⟩
end Go.Proofs.YtpabdmcbahmjnaaGreat
