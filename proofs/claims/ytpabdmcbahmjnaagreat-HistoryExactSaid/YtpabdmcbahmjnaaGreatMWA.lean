/- Part of a proof: W1 W2 W3a W3 W4. -/
import Derived.Test.YtpabdmcbahmjnaaGreatMVA
import Derived.WalkKit
import Derived.WalkLawsBesides
import Derived.WalkSpells
import Derived.Outline
import Derived.Lib.Hide
import Derived.Test.YtpabdmcbahmjnaaGreatMU20
import Derived.Deep.CutBlock
import Derived.Deep.DeepCutAuto
import Derived.MapKept
import Derived.Below
import Derived.Laws.MakeOwn
import Derived.Orders
namespace Go.Proofs.YtpabdmcbahmjnaaGreat
namespace Tv
open Go Go.RowKit
set_option linter.unusedSimpArgs false
set_option linter.unusedVariables false
def nB : Bt := fun _ => none
def nX : Bx := fun _ => none
def Core (σ : Sg) (L : Nat) (w : World) : Prop := Inv tab σ nB nX L w
theorem Core.of {σ : Sg} {β : Bt} {bx : Bx} {L : Nat} {w : World} (h : Inv tab σ β bx L w) : Core σ L w :=
 ⟨h.hp, (fun id cs hc => by cases hc), (fun id id' b h1 => by cases h1), (fun id b h1 => by cases h1), (fun id b h1 => by cases h1), h.lt, h.lim⟩
structure Bl (σ : Sg) (β : Bt) (w : World) (b : Nat) (cs : List CV) : Prop where
 no : σ b = none
 blk : ∃ vs T, w.heap[b]? = some (.cells vs T (0, 0)) ∧ Cells tab σ β cs vs.toList ∧ ∀ v ∈ vs.toList, v.oneCell' = true
theorem Bl.lt {σ : Sg} {β : Bt} {w : World} {b : Nat} {cs : List CV} (h : Bl σ β w b cs) : b < w.heap.size := by
 obtain ⟨vs, T, h1, _⟩ := h.blk
 exact (Array.getElem?_eq_some_iff.1 h1).1
theorem Bl.keep {σ σ' : Sg} {β : Bt} {w w' : World} {b : Nat} {cs : List CV} (h : Bl σ β w b cs) (hl : Le σ σ') (hn : σ' b = none) (hw : w'.heap[b]? = w.heap[b]?) : Bl σ' β w' b cs := by
 obtain ⟨vs, T, h1, h2, h3⟩ := h.blk
 exact ⟨hn, vs, T, hw.trans h1, h2.mono hl (LeB.refl _), h3⟩
theorem Bl.weak {σ : Sg} {β : Bt} {w : World} {b : Nat} {cs cs' : List CV} {ks : List Nat} (h : Bl σ β w b cs) (hw : wkL cs cs') (hi : csIn ks cs' = true) : Bl σ (keepB ks β) w b cs' := by
 obtain ⟨vs, T, h1, h2, h3⟩ := h.blk
 exact ⟨h.no, vs, T, h1, wkL_ok h2 hw hi, h3⟩
theorem Inv.bl {σ : Sg} {β : Bt} {bx : Bx} {L : Nat} {w : World} (h : Inv tab σ β bx L w) {id b : Nat} {cs : List CV} (hb : β id = some b) (hc : bx id = some cs) : Bl σ β w b cs := by
 obtain ⟨b', vs, T, h1, h2, h3, h4⟩ := h.box id cs hc
 rw [hb] at h1
 injection h1 with h1
 subst h1
 exact ⟨h.apart id b hb, vs, T, h2, h3, h4⟩
theorem keepB_nil (β : Bt) : keepB [] β = nB := by funext i; rfl
theorem keepB_bE (bm be : Nat) : keepB [1000, 1001] (bE bm be) = bE bm be := keepB_all fun id b h => by
 rcases bE_some h with ⟨e, _⟩ | ⟨e, _⟩ <;> subst e <;> rfl
theorem Bl.memb {σ : Sg} {β : Bt} {w : World} {b L L' : Nat} (h : Bl σ β w b (memB L)) (hl : L ≤ L') : Bl σ nB w b (memB L') := by
 have := h.weak (ks := []) (WL.me hl).h rfl
 rwa [keepB_nil] at this
theorem Bl.memo {σ : Sg} {β : Bt} {w : World} {b L : Nat} (h : Bl σ nB w b (memB L)) : Bl σ β w b (memB L) := by
 obtain ⟨vs, T, h1, h2, h3⟩ := h.blk
 exact ⟨h.no, vs, T, h1, h2.mono (Le.refl _) (fun _ _ h => by cases h), h3⟩
theorem EW.core {bm be : Nat} {σ : Sg} {x : XS} {w : World} (h : EW bm be σ x w) : Core σ x.L w := Core.of h.inv
theorem EW.mem {bm be : Nat} {σ : Sg} {x : XS} {w : World} (h : EW bm be σ x w) : Bl σ nB w bm (memB x.L) :=
 (h.inv.bl (id := 1000) rfl rfl).memb (Nat.le_refl _)
theorem EW.exe {bm be : Nat} {σ : Sg} {x : XS} {w : World} (h : EW bm be σ x w) : Bl σ (bE bm be) w be (exB x.L x.G x.M x.C x.E x.a x.m x.c x.g x.f (x.z = 0)) :=
 h.inv.bl (id := 1001) rfl rfl
theorem EW.ne {bm be : Nat} {σ : Sg} {x : XS} {w : World} (h : EW bm be σ x w) : bm ≠ be := fun e => by
 have := h.inv.inj 1000 1001 bm rfl (by rw [e]; rfl)
 omega
theorem EW.mk2 {bm be : Nat} {σ : Sg} {x : XS} {w : World} (hc : Core σ x.L w) (hm : Bl σ nB w bm (memB x.L)) (he : Bl σ (bE bm be) w be (exB x.L x.G x.M x.C x.E x.a x.m x.c x.g x.f (x.z = 0))) (hn : bm ≠ be)
  (xi : XI x.L x.G x.M x.C x.E x.a x.m x.c x.g x.f) (z0 : 0 ≤ x.z) (z1 : x.z ≤ 1) : EW bm be σ x w := by
 refine ⟨⟨hc.hp, ?_, ?_, ?_, ?_, hc.lt, hc.lim⟩, xi, z0, z1⟩
 ·intro id cs hcs
  unfold xE at hcs
  rcases List.mem_cons.1 (assoc_mem hcs) with e | e
  ·injection e with e1 e2
   subst e1; subst e2
   obtain ⟨vs, T, h1, h2, h3⟩ := (hm.memo (β := bE bm be)).blk
   exact ⟨bm, vs, T, rfl, h1, h2, h3⟩
  ·rcases List.mem_cons.1 e with e | e
   ·injection e with e1 e2
    subst e1; subst e2
    obtain ⟨vs, T, h1, h2, h3⟩ := he.blk
    exact ⟨be, vs, T, rfl, h1, h2, h3⟩
   ·cases e
 ·intro id id' b h1 h2
  rcases bE_some h1 with ⟨e1, f1⟩ | ⟨e1, f1⟩ <;> rcases bE_some h2 with ⟨e2, f2⟩ | ⟨e2, f2⟩
  ·rw [e1, e2]
  ·exact absurd (f1.symm.trans f2) hn
  ·exact absurd (f2.symm.trans f1) hn
  ·rw [e1, e2]
 ·intro id b h1
  rcases bE_some h1 with ⟨e1, f1⟩ | ⟨e1, f1⟩
  ·rw [f1]; exact hm.no
  ·rw [f1]; exact he.no
 ·intro id b h1
  rcases bE_some h1 with ⟨e1, f1⟩ | ⟨e1, f1⟩
  ·subst e1; exact ⟨_, rfl⟩
  ·subst e1; exact ⟨_, rfl⟩
theorem XI.upW {L L' G M C E : Nat} {a m c g f : Int} (h : XI L G M C E a m c g f) (hl : L ≤ L') : XI L' G M C E a m c g f := by
 obtain ⟨h1, h2, h3, h4, h5, h6, h7, h8, h9, h10, h11, h12, h13, h14, h15⟩ := h
 constructor <;> omega
theorem EW.other {bm e2 : Nat} {σ σ' : Sg} {x : XS} {L' : Nat} {w w' : World} (h : EW bm e2 σ x w) (hc : Core σ' L' w') (hm : Bl σ' nB w' bm (memB L')) (hl : x.L ≤ L') (hσ : Le σ σ') (hn : σ' e2 = none) (hk : w'.heap[e2]? = w.heap[e2]?) :
  EW bm e2 σ' { x with L := L' } w' := by
 refine EW.mk2 (x := { x with L := L' }) hc hm ?_ h.ne (h.xi.upW hl) h.z0 h.z1
 have := (h.exe.keep hσ hn hk).weak (ks := [1000, 1001]) (WL.ex (s := (x.z = 0)) hl).h rfl
 rwa [keepB_bE] at this
def EX (bm be : Nat) (σ : Sg) (L g : Nat) (w : World) : Prop := ∃ x : XS, x.L = L ∧ x.G ≤ g ∧ EW bm be σ x w
theorem EX.other {bm e2 : Nat} {σ σ' : Sg} {L L' g : Nat} {w w' : World} (h : EX bm e2 σ L g w) (hc : Core σ' L' w') (hm : Bl σ' nB w' bm (memB L')) (hl : L ≤ L') (hσ : Le σ σ') (hn : σ' e2 = none) (hk : w'.heap[e2]? = w.heap[e2]?) : EX bm e2 σ' L' g w' := by
 obtain ⟨x, h1, h2, h3⟩ := h
 subst h1
 exact ⟨{ x with L := L' }, rfl, h2, EW.other (L' := L') h3 hc hm hl hσ hn hk⟩
theorem EX.ge {bm e2 : Nat} {σ : Sg} {L g g' : Nat} {w : World} (h : EX bm e2 σ L g w) (hg : g ≤ g') : EX bm e2 σ L g' w := by
 obtain ⟨x, h1, h2, h3⟩ := h
 exact ⟨x, h1, Nat.le_trans h2 hg, h3⟩
structure FM (S : Nat → Prop) (σ : Sg) (w : World) (σ' : Sg) (w' : World) : Prop where
 os : w'.os = w.os
 tape : w'.tape = w.tape
 output : w'.output = w.output
 size : w.heap.size ≤ w'.heap.size
 sg : Le σ σ'
 new : ∀ b x, σ' b = some x → σ b = some x ∨ w.heap.size ≤ b
 old : ∀ b, b < w.heap.size → σ b = none → ¬ S b → w'.heap[b]? = w.heap[b]?
theorem FM.non {S : Nat → Prop} {σ σ' : Sg} {w w' : World} (h : FM S σ w σ' w') {b : Nat} (hb : b < w.heap.size) (hn : σ b = none) : σ' b = none := by
 cases hs : σ' b with
 | none => rfl
 | some x =>
  rcases h.new b x hs with h1 | h1
  ·rw [hn] at h1; cases h1
  ·omega
theorem FM.refl (S : Nat → Prop) (σ : Sg) (w : World) : FM S σ w σ w := ⟨rfl, rfl, rfl, Nat.le_refl _, Le.refl _, fun _ _ h => .inl h, fun _ _ _ _ => rfl⟩
theorem FM.trans {S : Nat → Prop} {σ σ' σ'' : Sg} {w w' w'' : World} (h : FM S σ w σ' w') (h' : FM S σ' w' σ'' w'') : FM S σ w σ'' w'' := by
 refine ⟨h'.os.trans h.os, h'.tape.trans h.tape, h'.output.trans h.output, Nat.le_trans h.size h'.size, fun b x hb => h'.sg _ _ (h.sg _ _ hb), ?_, ?_⟩
 ·intro b x hb
  rcases h'.new b x hb with h1 | h1
  ·exact h.new b x h1
  ·right; have := h.size; omega
 ·intro b h1 h2 h3
  exact (h'.old b (Nat.lt_of_lt_of_le h1 h.size) (h.non h1 h2) h3).trans (h.old b h1 h2 h3)
theorem FM.le {S S' : Nat → Prop} {σ σ' : Sg} {w w' : World} (h : FM S σ w σ' w') (hS : ∀ b, b < w.heap.size → S b → S' b) : FM S' σ w σ' w' :=
 ⟨h.os, h.tape, h.output, h.size, h.sg, h.new, fun b h1 h2 h3 => h.old b h1 h2 fun hs => h3 (hS b h1 hs)⟩
theorem FM.bl {S : Nat → Prop} {σ σ' : Sg} {β : Bt} {w w' : World} (h : FM S σ w σ' w') {b : Nat} {cs : List CV} (hb : Bl σ β w b cs) (hS : ¬ S b) : Bl σ' β w' b cs :=
 hb.keep h.sg (h.non hb.lt hb.no) (h.old b hb.lt hb.no hS)
theorem HF.fm {bm be : Nat} {σ σ' : Sg} {w w' : World} (h : HF bm be σ w σ' w') : FM (fun b => b = bm ∨ b = be) σ w σ' w' :=
 ⟨h.os, h.tape, h.output, h.size, h.sg, h.new, fun b h1 h2 h3 => (h.keep b ⟨h1, h2, fun e => h3 (.inl e), fun e => h3 (.inr e)⟩).2⟩
theorem Fr.fm {tc : Nat → Bool} {σ σ' : Sg} {β β' : Bt} {w w' : World} (h : Fr tc σ β w σ' β' w') : FM (fun b => ∃ id, β id = some b ∧ tc id = true) σ w σ' w' := by
 refine ⟨h.os, h.tape, h.output, h.size, h.sg, h.new, fun b h1 h2 h3 => ?_⟩
 by_cases hb : ∃ id, β id = some b
 ·obtain ⟨id, hid⟩ := hb
  cases ht : tc id with
  | true => exact absurd ⟨id, hid, ht⟩ h3
  | false => exact h.ro id b hid ht
 ·exact h.old b h1 h2 fun id hid => hb ⟨id, hid⟩
theorem FM.alloc (S : Nat → Prop) (σ : Sg) (w : World) (o : Obj) : FM S σ w σ (w.alloc o) :=
 ⟨rfl, rfl, rfl, by simp, Le.refl _, fun _ _ h => .inl h, fun b h1 _ _ => Below.heap_alloc w o b h1⟩
theorem Core.alloc {σ : Sg} {L : Nat} {w : World} (h : Core σ L w) (o : Obj) : Core σ L (w.alloc o) :=
 Inv.same h (by simp) fun b hb => Below.heap_alloc w o b hb
theorem Core.up {σ : Sg} {L L' : Nat} {w : World} (h : Core σ L w) (hl : L ≤ L') (hm : L' ≤ lenMax) : Core σ L' w := by
 refine ⟨fun b Ls m hb => ?_, h.box, h.inj, h.apart, h.dom, h.lt, hm⟩
 obtain ⟨h1, cs, T, h2, h3, h4⟩ := h.hp b Ls m hb
 exact ⟨h1, cs, T, h2, h3, fun i v ct hv hc => CT.ok_mono (h4 i v ct hv hc) (Le.refl _) hl⟩
theorem Core.new {σ : Sg} {L : Nat} {w : World} (h : Core σ L w) : σ w.heap.size = none := Inv.newNone h
theorem Core.same {σ : Sg} {L : Nat} {w w' : World} (h : Core σ L w) (hz : w.heap.size ≤ w'.heap.size) (hk : ∀ b, σ b ≠ none → w'.heap[b]? = w.heap[b]?) : Core σ L w' := by
 refine ⟨fun b Ls m hb => ?_, (fun id cs hc => by cases hc), h.inj, h.apart, h.dom, fun b x hb => Nat.lt_of_lt_of_le (h.lt b x hb) hz, h.lim⟩
 obtain ⟨h1, cs, T, h2, h3, h4⟩ := h.hp b Ls m hb
 exact ⟨h1, cs, T, (hk b (by rw [hb]; simp)).trans h2, h3, h4⟩
theorem number_any (t i : Int) (t0 : 0 ≤ t) (t1 : t < 8) (i0 : 0 ≤ i) (i1 : i < 16) (n : Nat) (hn : 1 + t * 16 + i = n) (w : World) :
  Calls Tryz.prog 55 #[.int .i64 t, .int .i64 i] w fun e w' => e = .returned (.int .i64 n) ∧ w = w' := by
 go_enter Tryz.func55, Tryz.ntmps55
 go_wp2
 go_ret
 exact ⟨rfl, rfl⟩
structure TN where
 bt : Nat
 bm : Nat
 mask : Int
 b2 : Nat
 b3 : Nat
 b4 : Nat
 b5 : Nat
 b6 : Nat
 b7 : Nat
 b8 : Nat
 bo : Nat
def TN.cells (t : TN) : Array Value := #[.pointer (some ⟨t.bm, 0, none⟩), .int .u64 t.mask, .slice (some ⟨t.b2, 0, none⟩) 129 129, .slice (some ⟨t.b3, 0, none⟩) 129 129, .slice (some ⟨t.b4, 0, none⟩) 129 129, .slice (some ⟨t.b5, 0, none⟩) 129 129, .slice (some ⟨t.b6, 0, none⟩) 129 129, .slice (some ⟨t.b7, 0, none⟩) 129 129, .slice (some ⟨t.b8, 0, none⟩) 129 129, .slice (some ⟨t.bo, 0, none⟩) 129 129]
def OpsOk (cs : Array Value) : Prop := cs.size = 645 ∧ ∀ n, n < 129 → ∃ (k h : Int) (s : ByteArray) (v e : Int), cs[n * 5]? = some (.int .i64 k) ∧ cs[n * 5 + 1]? = some (.int .i64 h) ∧ cs[n * 5 + 2]? = some (.string s) ∧ cs[n * 5 + 3]? = some (.int .u64 v) ∧ cs[n * 5 + 4]? = some (.int .u64 e) ∧
 InR .i64 k ∧ 0 ≤ h ∧ h ≤ 128 ∧ s.size ≤ strMax ∧ InR .u64 v ∧ InR .u64 e
structure TAt (σ : Sg) (w : World) (t : TN) : Prop where
 no : σ t.bt = none
 tab : w.heap[t.bt]? = some (.cells t.cells 84 (0, 0))
 msk : InR .u64 t.mask
 s2 : σ t.b2 = some ([.bool], 129)
 s3 : σ t.b3 = some ([.int .i64, .bool], 129)
 s4 : σ t.b4 = some ([.bool, .slice 168, .slice 139], 129)
 s5 : σ t.b5 = some ([.int .i64], 129)
 s6 : σ t.b6 = some ([.int .i64, .bool], 129)
 s7 : σ t.b7 = some ([.bool], 129)
 s8 : σ t.b8 = some ([.bool], 129)
 on : σ t.bo = none
 ops : ∃ cs T, w.heap[t.bo]? = some (.cells cs T (0, 0)) ∧ OpsOk cs
 nm : t.bt ≠ t.bm
 om : t.bo ≠ t.bm
 ot : t.bo ≠ t.bt
theorem TAt.lt {σ : Sg} {w : World} {t : TN} (h : TAt σ w t) : t.bt < w.heap.size := (Array.getElem?_eq_some_iff.1 h.tab).1
theorem TAt.olt {σ : Sg} {w : World} {t : TN} (h : TAt σ w t) : t.bo < w.heap.size := by
 obtain ⟨cs, T, h1, _⟩ := h.ops
 exact (Array.getElem?_eq_some_iff.1 h1).1
theorem TAt.keep {σ σ' : Sg} {w w' : World} {t : TN} {S : Nat → Prop} (h : TAt σ w t) (hf : FM S σ w σ' w') (h1 : ¬ S t.bt) (h2 : ¬ S t.bo) : TAt σ' w' t := by
 obtain ⟨cs, T, g1, g2⟩ := h.ops
 exact ⟨hf.non h.lt h.no, (hf.old _ h.lt h.no h1).trans h.tab, h.msk, hf.sg _ _ h.s2, hf.sg _ _ h.s3, hf.sg _ _ h.s4, hf.sg _ _ h.s5, hf.sg _ _ h.s6, hf.sg _ _ h.s7, hf.sg _ _ h.s8, hf.non h.olt h.on,
  ⟨cs, T, (hf.old _ h.olt h.on h2).trans g1, g2⟩, h.nm, h.om, h.ot⟩
theorem Core.cell {σ : Sg} {L : Nat} {w : World} (h : Core σ L w) {b m : Nat} {Ls : List CT} (hb : σ b = some (Ls, m)) {i : Nat} (hi : i < m * Ls.length) : ∃ (v : Value) (ct : CT) (cs : Array Value) (T : TypeId), w.heap[b]? = some (.cells cs T (0, 0)) ∧ cs.size = m * Ls.length ∧ cs[i]? = some v ∧ Ls[i % Ls.length]? = some ct ∧ ct.ok tab σ L v := by
 obtain ⟨h1, cs, T, h2, h3, h4⟩ := h.hp b Ls m hb
 have hv : cs[i]? = some cs[i] := Array.getElem?_eq_getElem (by omega)
 have hc : Ls[i % Ls.length]? = some (Ls[i % Ls.length]'(Nat.mod_lt _ h1)) := List.getElem?_eq_getElem _
 exact ⟨_, _, cs, T, h2, h3, hv, hc, h4 i _ _ hv hc⟩
theorem Core.set {σ : Sg} {L : Nat} {w : World} (h : Core σ L w) {b m : Nat} {Ls : List CT} (hb : σ b = some (Ls, m)) {i : Nat} {ct : CT} (hc : Ls[i % Ls.length]? = some ct) {v : Value} (hv : ct.ok tab σ L v) : Core σ L (w.setCell ⟨b, i, none⟩ v) := by
 have hz : (w.setCell ⟨b, i, none⟩ v).heap.size = w.heap.size := by simp [World.setCell]
 refine ⟨fun b' Ls' m' hb' => ?_, (fun id cs hc => by cases hc), h.inj, h.apart, h.dom, fun b' x hb' => by rw [hz]; exact h.lt b' x hb', h.lim⟩
 obtain ⟨h1, cs, T, h2, h3, h4⟩ := h.hp b' Ls' m' hb'
 by_cases e : b' = b
 ·subst e
  rw [hb] at hb'
  injection hb' with hb'
  injection hb' with e1 e2
  subst e1; subst e2
  refine ⟨h1, cs.setIfInBounds i v, T, ?_, by simpa using h3, ?_⟩
  ·unfold World.setCell
   rw [Array.getElem?_modify, if_pos rfl, h2]
   rfl
  ·intro j u ct' hj hct
   rw [Array.getElem?_setIfInBounds] at hj
   split at hj
   ·rename_i e
    subst e
    split at hj
    ·injection hj with hj
     subst hj
     rw [hc] at hct
     injection hct with hct
     subst hct
     exact hv
    ·cases hj
   ·exact h4 j u ct' hj hct
 ·refine ⟨h1, cs, T, ?_, h3, h4⟩
  rw [Below.heap_setCell w ⟨b, i, none⟩ v b' e]
  exact h2
theorem FM.set {S : Nat → Prop} {σ : Sg} {w : World} {b i : Nat} (v : Value) (h : σ b ≠ none ∨ S b ∨ w.heap.size ≤ b) : FM S σ w σ (w.setCell ⟨b, i, none⟩ v) := by
 refine ⟨rfl, rfl, rfl, by simp [World.setCell], Le.refl _, fun _ _ h => .inl h, fun b' h1 h2 h3 => ?_⟩
 refine Below.heap_setCell w ⟨b, i, none⟩ v b' fun e => ?_
 subst e
 rcases h with h | h | h
 ·exact h h2
 ·exact h3 h
 ·omega
theorem FM.setNew {S : Nat → Prop} {σ σ' : Sg} {w w1 : World} {b i : Nat} (h : FM S σ w σ' w1) (hb : w.heap.size ≤ b ∨ σ b ≠ none ∨ S b) (v : Value) : FM S σ w σ' (w1.setCell ⟨b, i, none⟩ v) := by
 refine ⟨h.os, h.tape, h.output, by simp [World.setCell]; exact h.size, h.sg, h.new, fun b' h1 h2 h3 => ?_⟩
 refine (Below.heap_setCell w1 ⟨b, i, none⟩ v b' fun e => ?_).trans (h.old b' h1 h2 h3)
 have e : b' = b := e
 subst e
 rcases hb with hb | hb | hb
 ·omega
 ·exact hb h2
 ·exact h3 hb
theorem FM.newAlloc {S : Nat → Prop} {σ σ' : Sg} {w w1 : World} (h : FM S σ w σ' w1) (o : Obj) : FM S σ w σ' (w1.alloc o) := h.trans (FM.alloc S σ' w1 o)
theorem Core.setOut {σ : Sg} {L : Nat} {w : World} (h : Core σ L w) {b i : Nat} (hb : σ b = none) (v : Value) : Core σ L (w.setCell ⟨b, i, none⟩ v) :=
 h.same (by simp [World.setCell]) fun b' h1 => Below.heap_setCell w ⟨b, i, none⟩ v b' fun e => by
  have e : b' = b := e
  subst e
  exact h1 hb
theorem blk_setW {w : World} {g i : Nat} {t : TypeId} {cs : Array Value} (h : w.heap[g]? = some (.cells cs t (0, 0))) (v : Value) : (w.setCell ⟨g, i, none⟩ v).heap[g]? = some (.cells (cs.setIfInBounds i v) t (0, 0)) := by
 unfold World.setCell
 rw [Array.getElem?_modify, if_pos rfl, h]
 rfl
theorem set_other {w : World} {g b i : Nat} {v : Value} {o : Option Obj} (h : w.heap[g]? = o) (hn : g ≠ b) : (w.setCell ⟨b, i, none⟩ v).heap[g]? = o := (Below.heap_setCell w ⟨b, i, none⟩ v g hn).trans h
def zc8 : Array Value := #[.int .i64 0, .bool false, .int .u64 0, .string ⟨#[]⟩, .int .i64 0, .int .i64 0, .int .i64 0, .bool false]
def zr8 (w : World) (P : Nat) : World := (((((((w.setCell ⟨P, 0, none⟩ (.int .i64 0)).setCell ⟨P, 1, none⟩ (.bool false)).setCell ⟨P, 2, none⟩ (.int .u64 0)).setCell ⟨P, 3, none⟩ (.string ⟨#[]⟩)).setCell ⟨P, 4, none⟩ (.int .i64 0)).setCell ⟨P, 5, none⟩ (.int .i64 0)).setCell ⟨P, 6, none⟩ (.int .i64 0)).setCell ⟨P, 7, none⟩ (.bool false)
theorem zr8_blk {w : World} {P : Nat} {T : TypeId} (h : w.heap[P]? = some (.cells zc8 T (0, 0))) : (zr8 w P).heap[P]? = some (.cells zc8 T (0, 0)) :=
 blk_setW (blk_setW (blk_setW (blk_setW (blk_setW (blk_setW (blk_setW (blk_setW h (i := 0) (.int .i64 0)) (i := 1) (.bool false)) (i := 2) (.int .u64 0)) (i := 3) (.string ⟨#[]⟩)) (i := 4) (.int .i64 0)) (i := 5) (.int .i64 0)) (i := 6) (.int .i64 0)) (i := 7) (.bool false)
theorem FM.zr8 {S : Nat → Prop} {σ σ' : Sg} {w w1 : World} {P : Nat} (h : FM S σ w σ' w1) (hP : w.heap.size ≤ P) : FM S σ w σ' (zr8 w1 P) :=
 (((((((h.setNew (.inl hP) _).setNew (.inl hP) _).setNew (.inl hP) _).setNew (.inl hP) _).setNew (.inl hP) _).setNew (.inl hP) _).setNew (.inl hP) _).setNew (.inl hP) _
theorem Core.zr8 {σ : Sg} {L : Nat} {w : World} {P : Nat} (h : Core σ L w) (hP : σ P = none) : Core σ L (zr8 w P) :=
 (((((((h.setOut hP _).setOut hP _).setOut hP _).setOut hP _).setOut hP _).setOut hP _).setOut hP _).setOut hP _
theorem Core.drew {σ : Sg} {L : Nat} {w : World} (h : Core σ L w) : Core σ L w.drew := Core.same h (Nat.le_refl _) fun _ _ => rfl
theorem FM.drew (S : Nat → Prop) (σ : Sg) (w : World) : FM S σ w σ w.drew := ⟨rfl, rfl, rfl, Nat.le_refl _, Le.refl _, fun _ _ h => .inl h, fun _ _ _ _ => rfl⟩
theorem Bl.on {σ : Sg} {β : Bt} {w w' : World} {b : Nat} {cs : List CV} (h : Bl σ β w b cs) (hw : w'.heap[b]? = w.heap[b]?) : Bl σ β w' b cs := h.keep (Le.refl _) h.no hw
def bts : List (Nat × Nat × List CV) → Bt
 | [], _ => none
 | (i, b, _) :: l, j => match Nat.beq j i with
  | true => some b
  | false => bts l j
def bxs : List (Nat × Nat × List CV) → List (Nat × List CV)
 | [] => []
 | (i, _, cs) :: l => (i, cs) :: bxs l
theorem bxs_bts : ∀ {l : List (Nat × Nat × List CV)} {j : Nat} {cs : List CV}, assoc (bxs l) j = some cs → ∃ b, bts l j = some b ∧ (j, b, cs) ∈ l
 | [], _, _, h => by simp [bxs, assoc] at h
 | (i, b, c) :: l, j, cs, h => by
  unfold bxs assoc at h
  unfold bts
  cases hb : Nat.beq j i with
  | true =>
   rw [hb] at h
   simp only [Option.some.injEq] at h
   have := Nat.eq_of_beq_eq_true hb
   subst h; subst this
   exact ⟨b, rfl, by simp⟩
  | false =>
   rw [hb] at h
   obtain ⟨b', h1, h2⟩ := bxs_bts h
   exact ⟨b', h1, by simp [h2]⟩
theorem bts_bxs : ∀ {l : List (Nat × Nat × List CV)} {j b : Nat}, bts l j = some b → ∃ cs, assoc (bxs l) j = some cs ∧ (j, b, cs) ∈ l
 | [], _, _, h => by simp [bts] at h
 | (i, b', c) :: l, j, b, h => by
  unfold bts at h
  unfold bxs assoc
  cases hb : Nat.beq j i with
  | true =>
   rw [hb] at h
   simp only [Option.some.injEq] at h
   have := Nat.eq_of_beq_eq_true hb
   subst h; subst this
   exact ⟨c, rfl, by simp⟩
  | false =>
   rw [hb] at h
   obtain ⟨cs, h1, h2⟩ := bts_bxs h
   exact ⟨cs, h1, by simp [h2]⟩
theorem Core.boxes {σ : Sg} {L : Nat} {w : World} (hc : Core σ L w) {l : List (Nat × Nat × List CV)} (hb : ∀ x ∈ l, Bl σ (bts l) w x.2.1 x.2.2) (hi : ∀ x ∈ l, ∀ y ∈ l, x.2.1 = y.2.1 → x.1 = y.1) : Inv tab σ (bts l) (assoc (bxs l)) L w := by
 refine ⟨hc.hp, ?_, ?_, ?_, ?_, hc.lt, hc.lim⟩
 ·intro id cs h
  obtain ⟨b, h1, h2⟩ := bxs_bts h
  obtain ⟨vs, T, g1, g2, g3⟩ := (hb _ h2).blk
  exact ⟨b, vs, T, h1, g1, g2, g3⟩
 ·intro id id' b h1 h2
  obtain ⟨_, _, h3⟩ := bts_bxs h1
  obtain ⟨_, _, h4⟩ := bts_bxs h2
  exact hi _ h3 _ h4 rfl
 ·intro id b h1
  obtain ⟨_, _, h3⟩ := bts_bxs h1
  exact (hb _ h3).no
 ·intro id b h1
  obtain ⟨cs, h2, _⟩ := bts_bxs h1
  exact ⟨cs, h2⟩
def envL (l : List (Nat × AV)) : Nat → AV := fun i => match assoc l i with
 | some v => v
 | none => .one (.c .any)
theorem envL_ok {t : Tab} {σ : Sg} {β : Bt} {l : List (Nat × AV)} {a : Act} (h : ∀ x ∈ l, AV.ok t σ β x.2 (a.tmps.getD x.1 Go.undef)) : ∀ i, (envL l i).ok t σ β (a.tmps.getD i Go.undef) := by
 intro i
 unfold envL
 cases hi : assoc l i with
 | none => exact trivial
 | some v => exact h _ (assoc_mem hi)
theorem Gam.mk2 {N : Nat} {tc : Nat → Bool} {σ : Sg} {L : Nat} {w : World} {a : Act} {l : List (Nat × AV)} {β : Bt} {bx : Bx} (hI : Inv tab σ β bx L w) (hN : a.tmps.size = N) (hd : a.defers = []) (he : ∀ x ∈ l, AV.ok tab σ β x.2 (a.tmps.getD x.1 Go.undef)) :
  Gam tab N tc σ β w ⟨envL l, bx, L⟩ a w := ⟨σ, β, hI, Fr.refl _ _ _ _, hN, hd, envL_ok he⟩
def fstC : Code → Code
 | .seq x _ => x
 | c => c
def sndC : Code → Code
 | .seq _ y => y
 | c => c
def bodyC (f : Func) : Code := match f.body with
 | some c => c
 | none => .skip
end Tv
end Go.Proofs.YtpabdmcbahmjnaaGreat
namespace Go.Proofs.YtpabdmcbahmjnaaGreat
namespace Tv
open Go Go.RowKit Go.MapKept
set_option linter.unusedSimpArgs false
set_option linter.unusedVariables false
noncomputable def finC : Cfg := ⟨⟨tab, [], []⟩, tcOf [], [1002, 8, 9, 10, 12], fun id => match assoc [(10, ⟨.take 0 (.take 1 (.take 2 (.take 4 (.take 5 (.take 6 (.take 7 (.take 9 (.take 10 (.take 3 (.take 8 (.take 12 (.take 11 (.step 13 (.take 14 (.step 15 (.done)))))))))))))))), [8, 1002], false, []⟩), (12, ⟨.take 0 (.take 1 (.take 2 (.take 4 (.take 5 (.take 6 (.take 7 (.take 9 (.take 10 (.take 11 (.take 12 (.take 13 (.take 15 (.take 3 (.take 8 (.take 14 (.take 16 (.take 17 (.step 18 (.take 19 (.step 20 (.take 21 (.step 22 (.done))))))))))))))))))))))), [12, 1002], false, []⟩), (14, ⟨.take 0 (.take 1 (.take 2 (.take 4 (.take 3 (.take 5 (.take 6 (.take 7 (.step 8 (.done))))))))), [9, 12, 1002], false, []⟩)] id with | some p => p | none => ⟨.done, [], false, []⟩⟩
def RESc : List CV := [.tint .i64, .tbool, .tint .u64, .str, .tint .i64, .tint .i64, .tint .i64, .tbool]
noncomputable def finRest : Code := sndC (sndC (sndC (sndC (sndC (bodyC Tryz.f47)))))
def finEnv (th N : Int) : List (Nat × AV) := [(0, .one (.c (.loc 1002 0))), (1, .one (.c (.int .i64 th))), (8, .one (.c (.loc 8 0))), (9, .one (.c (.loc 9 0))), (10, .one (.c (.loc 10 0))), (11, .one (.c (.int .i64 N))), (12, .one (.c (.loc 12 0)))]
def finBox (L : Nat) (oh : Int) : List (Nat × List CV) := [(1002, tbB), (8, RESc), (9, [.tbool, .sl 168 L, .sl 139 L]), (10, RESc), (12, [.tint .i64, .int .i64 oh, .str, .tint .u64, .tint .u64])]
noncomputable def finEnd (L : Nat) : St → Prop := fun S => (match resOf tab S Tryz.f47.results.toList with | some r => wkR r (.one (.agg RESc)) | none => False) ∧ wkB S.box [(1002, tbB)] ∧ S.L = L
noncomputable def finPost (L : Nat) : Post := ⟨fun _ => False, fun _ _ => False, finEnd L⟩
set_option maxRecDepth 100000 in
set_option maxHeartbeats 8000000 in
theorem fin_vc (L : Nat) (oh th N : Int) (h0 : 0 ≤ oh) (h1 : oh ≤ 128) (N0 : 0 ≤ N) (N1 : N < 129) : vc finC finRest ⟨envL (finEnv th N), assoc (finBox L oh), L⟩ (finPost L) := by
 repeat' (first | (with_reducible refine Pch.mk ?_; kernel_rfl) | (intro n hr h; replace h := h (by omega) (by omega); subst h) | (intro h; try (exfalso; first | contradiction | exact h True.intro)) | ((conv => whnf) <;> (first | (with_reducible refine WL.mk ?_) | with_reducible refine And.intro ?_ ?_ | with_reducible exact True.intro | exact Eq.refl _)))
 all_goals (first | assumption | contradiction | omega)
structure RsOk (r0 : Int) (r2 : Int) (r3 : ByteArray) (r4 r5 r6 : Int) : Prop where
 h0 : InR .i64 r0
 h2 : InR .u64 r2
 h3 : r3.size ≤ strMax
 h4 : InR .i64 r4
 h5 : InR .i64 r5
 h6 : InR .i64 r6
def FinPost (σ : Sg) (L : Nat) (w : World) (t : TN) (e : Ending) (w' : World) : Prop :=
 ∃ (σ' : Sg) (r0 r2 r4 r5 r6 : Int) (r1 r7 : Bool) (r3 : ByteArray), e = .returned (.agg #[.int .i64 r0, .bool r1, .int .u64 r2, .string r3, .int .i64 r4, .int .i64 r5, .int .i64 r6, .bool r7]) ∧ RsOk r0 r2 r3 r4 r5 r6 ∧ Core σ' L w' ∧ TAt σ' w' t ∧ FM (fun _ => False) σ w σ' w'
theorem cells8 {σ : Sg} {β : Bt} {vs : Array Value} (h : Cells tab σ β RESc vs.toList) : ∃ (r0 r2 r4 r5 r6 : Int) (r1 r7 : Bool) (r3 : ByteArray), vs = #[.int .i64 r0, .bool r1, .int .u64 r2, .string r3, .int .i64 r4, .int .i64 r5, .int .i64 r6, .bool r7] ∧ RsOk r0 r2 r3 r4 r5 r6 := by
 obtain ⟨l⟩ := vs
 unfold RESc at h
 simp only at h
 rcases h with _ | ⟨⟨r0, rfl, h0⟩, _ | ⟨⟨r1, rfl⟩, _ | ⟨⟨r2, rfl, h2⟩, _ | ⟨⟨r3, rfl, h3⟩, _ | ⟨⟨r4, rfl, h4⟩, _ | ⟨⟨r5, rfl, h5⟩, _ | ⟨⟨r6, rfl, h6⟩, _ | ⟨⟨r7, rfl⟩, _ | _⟩⟩⟩⟩⟩⟩⟩⟩
 exact ⟨r0, r2, r4, r5, r6, r1, r7, r3, rfl, h0, h2, h3, h4, h5, h6⟩
theorem cells8_ok {σ : Sg} {β : Bt} {r0 r2 r4 r5 r6 : Int} {r1 r7 : Bool} {r3 : ByteArray} (h : RsOk r0 r2 r3 r4 r5 r6) : Cells tab σ β RESc [.int .i64 r0, .bool r1, .int .u64 r2, .string r3, .int .i64 r4, .int .i64 r5, .int .i64 r6, .bool r7] :=
 .cons ⟨_, rfl, h.h0⟩ (.cons ⟨_, rfl⟩ (.cons ⟨_, rfl, h.h2⟩ (.cons ⟨_, rfl, h.h3⟩ (.cons ⟨_, rfl, h.h4⟩ (.cons ⟨_, rfl, h.h5⟩ (.cons ⟨_, rfl, h.h6⟩ (.cons ⟨_, rfl⟩ .nil)))))))
theorem z8ok : RsOk 0 0 ⟨#[]⟩ 0 0 0 := ⟨⟨by rw [i64_min]; omega, by rw [i64_max]; omega⟩, ⟨by rw [u64_min]; omega, by rw [u64_max]; omega⟩, by decide, ⟨by rw [i64_min]; omega, by rw [i64_max]; omega⟩, ⟨by rw [i64_min]; omega, by rw [i64_max]; omega⟩, ⟨by rw [i64_min]; omega, by rw [i64_max]; omega⟩⟩
theorem Core.none3 {σ : Sg} {L : Nat} {w : World} (h : Core σ L w) {b : Nat} (hb : w.heap.size ≤ b) : σ b = none := by
 cases hs : σ b with
 | none => rfl
 | some x => have := h.lt b x hs; omega
theorem FM.low {σ σ' : Sg} {w w' : World} (h : FM (fun b => w.heap.size ≤ b) σ w σ' w') : FM (fun _ => False) σ w σ' w' :=
 ⟨h.os, h.tape, h.output, h.size, h.sg, h.new, fun b h1 h2 _ => h.old b h1 h2 (by omega)⟩
theorem sl_129 {σ : Sg} {E : TypeId} {b : Nat} (h : σ b = some (tab.lay E, 129)) : SlOk tab σ E (some ⟨b, 0, none⟩) 129 129 :=
 ⟨Nat.le_refl _, by decide, (fun e => by cases e), fun a ha => by
  injection ha with ha
  subst ha
  exact ⟨rfl, 129, 0, h, by simp, by omega⟩⟩
theorem TAt.bl {σ : Sg} {β : Bt} {w : World} {t : TN} (h : TAt σ w t) : Bl σ β w t.bt tbB := by
 refine ⟨h.no, _, _, h.tab, ?_, ?_⟩
 ·exact .cons trivial (.cons ⟨_, rfl, h.msk⟩ (.cons ⟨_, _, rfl, sl_129 h.s2⟩ (.cons ⟨_, _, rfl, sl_129 h.s3⟩ (.cons ⟨_, _, rfl, sl_129 h.s4⟩ (.cons ⟨_, _, rfl, sl_129 h.s5⟩ (.cons ⟨_, _, rfl, sl_129 h.s6⟩ (.cons ⟨_, _, rfl, sl_129 h.s7⟩ (.cons ⟨_, _, rfl, sl_129 h.s8⟩ (.cons trivial .nil)))))))))
 ·intro v hv
  simp only [TN.cells, List.mem_cons, List.not_mem_nil, or_false] at hv
  rcases hv with rfl | rfl | rfl | rfl | rfl | rfl | rfl | rfl | rfl | rfl <;> rfl
theorem one8 {r0 r2 r4 r5 r6 : Int} {r1 r7 : Bool} {r3 : ByteArray} : ∀ v ∈ [Value.int .i64 r0, .bool r1, .int .u64 r2, .string r3, .int .i64 r4, .int .i64 r5, .int .i64 r6, .bool r7], v.oneCell' = true := by
 intro v hv
 simp only [List.mem_cons, List.not_mem_nil, or_false] at hv
 rcases hv with rfl | rfl | rfl | rfl | rfl | rfl | rfl | rfl <;> rfl
theorem fin_go {L : Nat} {oh th N : Int} (h0 : 0 ≤ oh) (h1 : oh ≤ 128) (N0 : 0 ≤ N) (N1 : N < 129) {σ : Sg} {β : Bt} {W : World} {a : Act} (hI : Inv tab σ β (assoc (finBox L oh)) L W) (hN : a.tmps.size = 110) (hd : a.defers = []) (he : ∀ x ∈ finEnv th N, AV.ok tab σ β x.2 (a.tmps.getD x.1 Go.undef))
  {R : Ending → World → Prop} (hR : ∀ (W' : World) (σ' : Sg) (v : Value), (∃ vs : Array Value, v = .agg vs ∧ Cells tab σ' nB RESc vs.toList) → Core σ' L W' → Fr (tcOf []) σ β W σ' β W' → R (.returned v) W') :
  Code.wp Tryz.prog finRest (bodyPost Tryz.prog Tryz.f47 R) a W := by
 have hb : ∀ id b, β id = some b → id ∈ finC.base := fun id b hb => by
  obtain ⟨cs, hcs⟩ := hI.dom id b hb
  have := assoc_mem hcs
  simp only [finBox, List.mem_cons, List.not_mem_nil, or_false, Prod.mk.injEq] at this
  rcases this with h | h | h | h | h <;> rw [h.1] <;> decide
 have hv := fin_vc L oh th N h0 h1 N0 N1
 have hg : Gam tab 110 (tcOf []) σ β W ⟨envL (finEnv th N), assoc (finBox L oh), L⟩ a W := Gam.mk2 hI hN hd he
 have fin : ∀ a' W', Cov tab 110 (tcOf []) σ β W (finEnd L) a' W' → bodyPost Tryz.prog Tryz.f47 R .ret a' W' := by
  rintro a' W' ⟨S, ⟨q1, q2, q3⟩, σ', β', k1, k2, k3, k4, k5⟩
  split at q1
  case h_2 => exact q1.elim
  rename_i r hr
  obtain ⟨v, g1, g2⟩ := resOf_ok tab_ok k1 k5 hr
  have g3 := wkR_ok (ks := []) g2 q1 rfl
  rw [keepB_nil] at g3
  refine bodyPost_ret g1 k4 (hR W' σ' v g3 ?_ ?_)
  ·rw [← q3]; exact Core.of k1
  ·refine ⟨k2.os, k2.tape, k2.output, k2.size, k2.sg, k2.new, fun _ _ h => h, fun _ _ h => .inl h, k2.old, k2.ro⟩
 refine wp_mono (vc_ok (P := Tryz.prog) (C := finC) (N := 110) mixed_ok tab_ok eq_nil sat_nil hb finRest _ _ a W (by kernel_rfl) hv hg) ?_
 intro e2 a2 W2 hq2
 cases e2 with
 | normal => obtain ⟨S, h, _⟩ := hq2; exact h.elim
 | ret => exact fin a2 W2 hq2
 | exit id => obtain ⟨S, h, _⟩ := hq2; exact h.elim
 | _ => exact hq2.elim
set_option maxRecDepth 100000 in
set_option maxHeartbeats 8000000 in
theorem finish_h {σ : Sg} {L : Nat} {w : World} {t : TN} (hc : Core σ L w) (ht : TAt σ w t) (th ix : Int) (t0 : 0 ≤ th) (t1 : th < 8) (i0 : 0 ≤ ix) (i1 : ix < 16)
  {r0 r2 r4 r5 r6 : Int} {r1 r7 : Bool} {r3 : ByteArray} (hr : RsOk r0 r2 r3 r4 r5 r6) {st : Bool} {A A2 : Option Addr} {n c n2 c2 : Nat} (hn : n ≤ L) (hs : SlOk tab σ 168 A n c) (hn2 : n2 ≤ L) (hs2 : SlOk tab σ 139 A2 n2 c2) :
  Calls Tryz.prog 47 #[.pointer (some ⟨t.bt, 0, none⟩), .int .i64 th, .int .i64 ix, .agg #[.int .i64 r0, .bool r1, .int .u64 r2, .string r3, .int .i64 r4, .int .i64 r5, .int .i64 r6, .bool r7], .agg #[.bool st, .slice A n c, .slice A2 n2 c2]] w (FinPost σ L w t) := by
 obtain ⟨N, hN⟩ : ∃ N : Nat, 1 + th * 16 + ix = N := Int.eq_ofNat_of_zero_le (by omega)
 have hN1 : N < 129 := by omega
 obtain ⟨W0, hW0⟩ : ∃ W0, W0 = ((w.alloc (.cells #[.int .i64 r0, .bool r1, .int .u64 r2, .string r3, .int .i64 r4, .int .i64 r5, .int .i64 r6, .bool r7] 56)).alloc (.cells #[.bool st, .slice A n c, .slice A2 n2 c2] 104)).alloc (.cells #[.int .i64 0, .bool false, .int .u64 0, .string ⟨#[]⟩, .int .i64 0, .int .i64 0, .int .i64 0, .bool false] 56) := ⟨_, rfl⟩
 have F0 : FM (fun _ => False) σ w σ W0 := by rw [hW0]; exact ((FM.alloc _ _ _ _).trans (FM.alloc _ _ _ _)).trans (FM.alloc _ _ _ _)
 have C0 : Core σ L W0 := by rw [hW0]; exact ((hc.alloc _).alloc _).alloc _
 have Z0 : W0.heap.size = w.heap.size + 3 := by rw [hW0]; simp
 have A0 := ht.keep F0 (fun h => h) (fun h => h)
 have B0 : W0.heap[w.heap.size]? = some (.cells #[.int .i64 r0, .bool r1, .int .u64 r2, .string r3, .int .i64 r4, .int .i64 r5, .int .i64 r6, .bool r7] 56 (0, 0)) ∧ W0.heap[w.heap.size + 1]? = some (.cells #[.bool st, .slice A n c, .slice A2 n2 c2] 104 (0, 0)) ∧ W0.heap[w.heap.size + 1 + 1]? = some (.cells #[.int .i64 0, .bool false, .int .u64 0, .string ⟨#[]⟩, .int .i64 0, .int .i64 0, .int .i64 0, .bool false] 56 (0, 0)) := by
  rw [hW0]
  have a1 := (heap_alloc w (.cells #[.int .i64 r0, .bool r1, .int .u64 r2, .string r3, .int .i64 r4, .int .i64 r5, .int .i64 r6, .bool r7] 56)).1
  have a2 := (heap_alloc (w.alloc (.cells #[.int .i64 r0, .bool r1, .int .u64 r2, .string r3, .int .i64 r4, .int .i64 r5, .int .i64 r6, .bool r7] 56)) (.cells #[.bool st, .slice A n c, .slice A2 n2 c2] 104)).1
  have a3 := (heap_alloc ((w.alloc (.cells #[.int .i64 r0, .bool r1, .int .u64 r2, .string r3, .int .i64 r4, .int .i64 r5, .int .i64 r6, .bool r7] 56)).alloc (.cells #[.bool st, .slice A n c, .slice A2 n2 c2] 104)) (.cells #[.int .i64 0, .bool false, .int .u64 0, .string ⟨#[]⟩, .int .i64 0, .int .i64 0, .int .i64 0, .bool false] 56)).1
  have q1 : (w.alloc (.cells #[.int .i64 r0, .bool r1, .int .u64 r2, .string r3, .int .i64 r4, .int .i64 r5, .int .i64 r6, .bool r7] 56)).heap.size = w.heap.size + 1 := by simp
  have q2 : ((w.alloc (.cells #[.int .i64 r0, .bool r1, .int .u64 r2, .string r3, .int .i64 r4, .int .i64 r5, .int .i64 r6, .bool r7] 56)).alloc (.cells #[.bool st, .slice A n c, .slice A2 n2 c2] 104)).heap.size = w.heap.size + 1 + 1 := by simp
  rw [q1] at a2
  rw [q2] at a3
  exact ⟨(Below.heap_alloc _ _ _ (by omega)).trans ((Below.heap_alloc _ _ _ (by omega)).trans a1), (Below.heap_alloc _ _ _ (by omega)).trans a2, a3⟩
 obtain ⟨v7, ct7, cs7, T7, e7, z7, f7, g7, k7⟩ := C0.cell ht.s7 (i := N) (by simpa using hN1)
 obtain ⟨v8, ct8, cs8, T8, e8, z8, f8, g8, k8⟩ := C0.cell ht.s8 (i := N) (by simpa using hN1)
 have d7 : N % [CT.bool].length = 0 := by simp [Nat.mod_one]
 rw [d7] at g7 g8
 simp only [List.getElem?_cons_zero, Option.some.injEq] at g7 g8
 subst g7; subst g8
 obtain ⟨q7, rfl⟩ := k7
 obtain ⟨q8, rfl⟩ := k8
 obtain ⟨os, To, eo, zo, ho⟩ := A0.ops
 obtain ⟨ok, oh, osn, ov, oe, p0, p1, p2, p3, p4, p5⟩ := ho N hN1
 have HN := Lib.hid hN
 have HC := Lib.hid hc
 have HT := Lib.hid ht
 have HR := Lib.hid hr
 have HS := Lib.hid (And.intro hn hs)
 have HS2 := Lib.hid (And.intro hn2 hs2)
 have HP := Lib.hid p5
 have HF0 := Lib.hid F0
 have HC0 := Lib.hid C0
 have HB0 := Lib.hid B0
 have HA0 := Lib.hid A0
 have y0 := blk_cell A0.tab 0
 have y7 := blk_cell A0.tab 7
 have y8 := blk_cell A0.tab 8
 have y9 := blk_cell A0.tab 9
 have x7 := (blk_cell e7 N).trans f7
 have x8 := (blk_cell e8 N).trans f8
 have l8 := blk_frozen e8 N
 have u0 := (blk_cell eo (N * 5)).trans p0
 have u1 := (blk_cell eo (N * 5 + 1)).trans p1
 have u2 := (blk_cell eo (N * 5 + 2)).trans p2
 have u3 := (blk_cell eo (N * 5 + 3)).trans p3
 have u4 := (blk_cell eo (N * 5 + 4)).trans p4
 simp only [TN.cells, List.getElem?_toArray, List.getElem?_cons_zero, List.getElem?_cons_succ] at y0 y7 y8 y9
 have g0 := blk_frozen B0.2.2 0
 have g1 := blk_frozen B0.2.2 1
 have g2 := blk_frozen B0.2.2 2
 have g3 := blk_frozen B0.2.2 3
 have g4 := blk_frozen B0.2.2 4
 have g5 := blk_frozen B0.2.2 5
 have g6 := blk_frozen B0.2.2 6
 have g7 := blk_frozen B0.2.2 7
 have k0 := blk_cell B0.2.2 0
 have k1 := blk_cell B0.2.2 1
 have k2 := blk_cell B0.2.2 2
 have k3 := blk_cell B0.2.2 3
 have k4 := blk_cell B0.2.2 4
 have k5 := blk_cell B0.2.2 5
 have k6 := blk_cell B0.2.2 6
 have k7 := blk_cell B0.2.2 7
 simp only [List.getElem?_toArray, List.getElem?_cons_zero, List.getElem?_cons_succ] at k0 k1 k2 k3 k4 k5 k6 k7
 have n1 : t.bo ≠ t.b8 := fun e => by have := ht.on; rw [e, ht.s8] at this; cases this
 have n2' : t.bt ≠ t.b8 := fun e => by have := ht.no; rw [e, ht.s8] at this; cases this
 clear hN hc ht hr hn hs hn2 hs2 p0 p1 p2 p3 p4 p5 ho zo eo e7 e8 f7 f8 d7 z7 z8 F0 C0 B0 A0
 go_enter Tryz.func47, Tryz.ntmps47
 go_upto_region 1 with fail
 rw [← hW0]
 clear hW0
 go_upto_region 5 with (go_at_call 55; refine (number_any th ix t0 t1 i0 i1 N HN.out _).mono ?_; rintro e w' ⟨rfl, rfl⟩)
 ·have hb8 := zr8_blk HB0.out.2.2
  have v0 := blk_cell hb8 0
  have v1 := blk_cell hb8 1
  have v2 := blk_cell hb8 2
  have v3 := blk_cell hb8 3
  have v4 := blk_cell hb8 4
  have v5 := blk_cell hb8 5
  have v6 := blk_cell hb8 6
  have v7 := blk_cell hb8 7
  simp only [zc8, List.getElem?_toArray, List.getElem?_cons_zero, List.getElem?_cons_succ] at v0 v1 v2 v3 v4 v5 v6 v7
  change bodyPost _ _ _ _ _ (zr8 W0 (w.heap.size + 1 + 1))
  have fm := HF0.out.zr8 (P := w.heap.size + 1 + 1) (by omega)
  exact bodyPost_ret (v := .agg zc8) (by simp [results, Tryz.results47, go_sem, zc8, v0, v1, v2, v3, v4, v5, v6, v7]) rfl
   ⟨σ, 0, 0, 0, 0, 0, false, false, ⟨#[]⟩, rfl, z8ok, HC0.out.zr8 (HC.out.none3 (by omega)), HT.out.keep fm (fun h => h) (fun h => h), fm⟩
 ·rename_i K hK
  have HK := Lib.hid hK
  clear hK
  go_wp2_with fail
  apply HK.out
  have sN : σ (w.heap.size + 3) = none := HC.out.none3 (by omega)
  have s8 := HT.out.s8
  have ez : (W0.setCell ⟨t.b8, N, none⟩ (.bool true)).heap.size = w.heap.size + 3 := by simp [World.setCell, Z0]
  have C1 : Core σ L (W0.setCell ⟨t.b8, N, none⟩ (.bool true)) := HC0.out.set s8 (ct := .bool) (by rw [show N % [CT.bool].length = 0 by simp [Nat.mod_one]]; rfl) ⟨true, rfl⟩
  have F1 : FM (fun _ => False) σ w σ (W0.setCell ⟨t.b8, N, none⟩ (.bool true)) := HF0.out.setNew (.inr (.inl (by rw [s8]; simp))) _
  obtain ⟨W1, hW1⟩ : ∃ W1, W1 = (W0.setCell ⟨t.b8, N, none⟩ (.bool true)).alloc (.cells #[.int .i64 ok, .int .i64 oh, .string osn, .int .u64 ov, .int .u64 oe] 68) := ⟨_, rfl⟩
  have C2 : Core σ L W1 := by rw [hW1]; exact C1.alloc _
  have F2 : FM (fun _ => False) σ w σ W1 := by rw [hW1]; exact F1.newAlloc _
  have keep : ∀ b o, W0.heap[b]? = some o → b ≠ t.b8 → W1.heap[b]? = some o := by
   intro b o h1 h2
   rw [hW1]
   exact (Below.heap_alloc _ _ _ (by rw [ez, ← Z0]; exact (Array.getElem?_eq_some_iff.1 h1).1)).trans (set_other h1 h2)
  have b3 : W1.heap[w.heap.size + 3]? = some (.cells #[.int .i64 ok, .int .i64 oh, .string osn, .int .u64 ov, .int .u64 oe] 68 (0, 0)) := by
   have := (heap_alloc (W0.setCell ⟨t.b8, N, none⟩ (.bool true)) (.cells #[.int .i64 ok, .int .i64 oh, .string osn, .int .u64 ov, .int .u64 oe] 68)).1
   rw [ez] at this
   rw [hW1]
   exact this
  have lt8 := HC.out.lt _ _ s8
  have c0 := keep _ _ HB0.out.1 (by omega)
  have c1 := keep _ _ HB0.out.2.1 (by omega)
  have c2 := keep _ _ HB0.out.2.2 (by omega)
  have ct := keep _ _ HA0.out.tab n2'
  rw [← hW1]
  have ta2 := HT.out.keep F2 (fun h => h) (fun h => h)
  have tlt := HT.out.lt
  have hn : ∀ b, w.heap.size ≤ b → σ b = none := fun b hb => HC.out.none3 hb
  have hI : Inv tab σ (bts [(1002, t.bt, tbB), (8, w.heap.size, RESc), (9, w.heap.size + 1, [.tbool, .sl 168 L, .sl 139 L]), (10, w.heap.size + 1 + 1, RESc), (12, w.heap.size + 3, [.tint .i64, .int .i64 oh, .str, .tint .u64, .tint .u64])]) (assoc (finBox L oh)) L W1 := by
   refine C2.boxes (l := [(1002, t.bt, tbB), (8, w.heap.size, RESc), (9, w.heap.size + 1, [.tbool, .sl 168 L, .sl 139 L]), (10, w.heap.size + 1 + 1, RESc), (12, w.heap.size + 3, [.tint .i64, .int .i64 oh, .str, .tint .u64, .tint .u64])]) ?_ ?_
   ·intro x hx
    simp only [List.mem_cons, List.not_mem_nil, or_false] at hx
    rcases hx with rfl | rfl | rfl | rfl | rfl
    ·exact ta2.bl
    ·exact ⟨hn _ (by dsimp only; omega), _, _, c0, cells8_ok HR.out, one8⟩
    ·refine ⟨hn _ (by dsimp only; omega), _, _, c1, .cons ⟨_, rfl⟩ (.cons ⟨_, _, _, rfl, HS.out.1, HS.out.2⟩ (.cons ⟨_, _, _, rfl, HS2.out.1, HS2.out.2⟩ .nil)), ?_⟩
     intro v hv
     simp only [List.mem_cons, List.not_mem_nil, or_false] at hv
     rcases hv with rfl | rfl | rfl <;> rfl
    ·exact ⟨hn _ (by dsimp only; omega), _, _, c2, cells8_ok z8ok, one8⟩
    ·refine ⟨hn _ (by dsimp only; omega), _, _, b3, .cons ⟨_, rfl, HP.out.1⟩ (.cons ⟨rfl, by rw [i64_min]; have := HP.out.2.1; omega, by rw [i64_max]; have := HP.out.2.2.1; omega⟩ (.cons ⟨_, rfl, HP.out.2.2.2.1⟩ (.cons ⟨_, rfl, HP.out.2.2.2.2.1⟩ (.cons ⟨_, rfl, HP.out.2.2.2.2.2⟩ .nil)))), ?_⟩
     intro v hv
     simp only [List.mem_cons, List.not_mem_nil, or_false] at hv
     rcases hv with rfl | rfl | rfl | rfl | rfl <;> rfl
   ·intro x hx y hy e
    simp only [List.mem_cons, List.not_mem_nil, or_false] at hx hy
    rcases hx with rfl | rfl | rfl | rfl | rfl <;> rcases hy with rfl | rfl | rfl | rfl | rfl <;> first | rfl | (exfalso; simp only at e; omega)
  have iT : InR .i64 th := ⟨by rw [i64_min]; omega, by rw [i64_max]; omega⟩
  have iN : InR .i64 (N : Int) := ⟨by rw [i64_min]; omega, by rw [i64_max]; omega⟩
  refine fin_go (L := L) (oh := oh) (th := th) (N := N) HP.out.2.1 HP.out.2.2.1 (by omega) (by omega) hI rfl rfl ?_ ?_
  ·intro x hx
   simp only [finEnv, List.mem_cons, List.not_mem_nil, or_false] at hx
   rcases hx with rfl | rfl | rfl | rfl | rfl | rfl | rfl
   ·exact ⟨_, rfl, rfl⟩
   ·exact ⟨rfl, iT⟩
   ·exact ⟨_, rfl, rfl⟩
   ·exact ⟨_, rfl, rfl⟩
   ·exact ⟨_, rfl, rfl⟩
   ·exact ⟨rfl, iN⟩
   ·exact ⟨_, rfl, rfl⟩
  ·rintro W' σ' v ⟨vs, rfl, hv⟩ C' F'
   obtain ⟨s0, s2, s4, s5, s6, s1, s7, s3, rfl, hs⟩ := cells8 hv
   have F3 : FM (fun b => w.heap.size ≤ b) σ w σ' W' := by
    refine (F2.le (fun _ _ h => h.elim)).trans (F'.fm.le ?_)
    rintro b _ ⟨id, h1, h2⟩
    obtain ⟨cs, _, h3⟩ := bts_bxs h1
    simp only [List.mem_cons, List.not_mem_nil, or_false, Prod.mk.injEq] at h3
    rcases h3 with h | h | h | h | h
    ·rw [h.1] at h2; cases h2
    ·omega
    ·omega
    ·omega
    ·omega
   exact ⟨σ', s0, s2, s4, s5, s6, s1, s7, s3, rfl, hs, C', HT.out.keep F3.low (fun h => h) (fun h => h), F3.low⟩
 ·have hb8 := zr8_blk HB0.out.2.2
  have v0 := blk_cell hb8 0
  have v1 := blk_cell hb8 1
  have v2 := blk_cell hb8 2
  have v3 := blk_cell hb8 3
  have v4 := blk_cell hb8 4
  have v5 := blk_cell hb8 5
  have v6 := blk_cell hb8 6
  have v7 := blk_cell hb8 7
  simp only [zc8, List.getElem?_toArray, List.getElem?_cons_zero, List.getElem?_cons_succ] at v0 v1 v2 v3 v4 v5 v6 v7
  change bodyPost _ _ _ _ _ (zr8 W0 (w.heap.size + 1 + 1))
  have fm := HF0.out.zr8 (P := w.heap.size + 1 + 1) (by omega)
  exact bodyPost_ret (v := .agg zc8) (by simp [results, Tryz.results47, go_sem, zc8, v0, v1, v2, v3, v4, v5, v6, v7]) rfl
   ⟨σ, 0, 0, 0, 0, 0, false, false, ⟨#[]⟩, rfl, z8ok, HC0.out.zr8 (HC.out.none3 (by omega)), HT.out.keep fm (fun h => h) (fun h => h), fm⟩
section
variable {P : Program} {ops : Array Oper} {Q : Exit → Act → World → Prop}
def openN (l : Array Bool) : Nat := l.toList.count false
theorem openN_set {l : Array Bool} {i : Nat} (h : l.getD i true = false) : openN (l.setIfInBounds i true) + 1 = openN l := by
 unfold openN
 have hi : i < l.size := by
  rcases Nat.lt_or_ge i l.size with h' | h'
  ·exact h'
  ·simp [Array.getElem?_eq_none h'] at h
 have hv : l.toList[i]'(by simpa using hi) = false := by simpa [hi] using h
 rw [Array.toList_setIfInBounds, List.count_set (by simpa using hi), hv]
 have hp : 0 < l.toList.count false := List.count_pos_iff.2 (by rw [← hv]; exact List.getElem_mem _)
 rw [if_pos (by rfl), if_neg (by decide)]
 omega
theorem ready_nil {l : Array Bool} (h : openN l = 0) : Region.ready .any ops l = [] := by
 cases hr : Region.ready .any ops l with
 | nil => rfl
 | cons i is =>
  have hm : i ∈ Region.ready .any ops l := by rw [hr]; simp
  have := ready_unlisted hm
  have h2 := openN_set this
  omega
theorem wpAny_inv (J : Array Bool → Act → World → Prop) (hs : ∀ l a w, J l a w → ∀ i ∈ Region.ready .any ops l, wpOp P ops Q i (J (l.setIfInBounds i true)) a w) (he : ∀ l a w, J l a w → Region.ready .any ops l = [] → Q .normal a w) :
  ∀ (fuel : Nat) (l : Array Bool) (a : Act) (w : World), openN l ≤ fuel → J l a w → wpAny P .any ops Q fuel l a w
 | 0, l, a, w, hf, hj => ⟨ready_nil (by omega), he l a w hj (ready_nil (by omega))⟩
 | fuel + 1, l, a, w, hf, hj => ⟨he l a w hj, fun i hi => wpOp_mono (fun a' w' h' => wpAny_inv J hs he fuel _ a' w' (by have := openN_set (ready_unlisted hi); omega) h') (hs l a w hj i hi)⟩
theorem wp_region_inv {id : Nat} {a : Act} {w : World} (hm : P.follows .mixedOrders = true) (J : Array Bool → Act → World → Prop) (h0 : J (Array.replicate ops.size false) a w.drew)
  (hs : ∀ l a w, J l a w → ∀ i ∈ Region.ready .any ops l, wpOp P ops Q i (J (l.setIfInBounds i true)) a w) (he : ∀ l a w, J l a w → Region.ready .any ops l = [] → Q .normal a w) : (Code.region id ops true).wp P Q a w :=
 wp_region_any hm (wpAny_inv J hs he _ _ _ _ (by unfold openN; simp) h0)
end
theorem zero_fits (ct : CT) {σ : Sg} {L : Nat} : ct.ok tab σ L (zeroVal ct) := by
 cases ct with
 | int k => exact ⟨0, rfl, by cases k <;> decide, by cases k <;> decide⟩
 | bool => exact ⟨false, rfl⟩
 | str => exact ⟨_, rfl, by decide⟩
 | slice E => exact ⟨none, 0, 0, rfl, Nat.zero_le _, Nat.le_refl _, Nat.zero_le _, fun _ => rfl, fun a ha => by cases ha⟩
 | ptr => exact ⟨none, rfl⟩
theorem make_any {S E : TypeId} (h : tab.elem S = some E) (n : Nat) (hn : n ≤ 1000) : ∃ Z : Array Value, (∀ w : World, (Instr.makeSlice S (.int .i64 (n : Int)) (.int .i64 (n : Int))).run Tryz.prog w = .ok (.slice (some ⟨w.heap.size, 0, none⟩) n n) (w.alloc (.cells Z E))) ∧
  0 < (tab.lay E).length ∧ Z.size = n * (tab.lay E).length ∧ ∀ i v ct, Z[i]? = some v → (tab.lay E)[i % (tab.lay E).length]? = some ct → v = zeroVal ct := by
 obtain ⟨hu, r, hr, hl⟩ := tab_ok.sl S E h
 have hrow := tab_ok.row E r hr
 obtain ⟨i, z, hi, hz1, hz, hc, hb⟩ := hrow.info
 have hlay : tab.lay E = r.lay := TabOk.lay (P := Tryz.prog) hr
 have hpos := hrow.pos
 have hb' : i.bytes ≤ 500 := by omega
 rw [hlay]
 refine ⟨madeCells z.cells (n * i.size), fun w => ?_, hpos, by rw [size_madeCells, hz1], ?_⟩
 ·have hi5 : (i.bytes : Int) ≤ 500 := by omega
  have hm5 : (i.bytes : Int) * n ≤ 500 * 1000 := Int.mul_le_mul hi5 (by omega) (by omega) (by omega)
  have hrm := run_make (P := Tryz.prog) w S E i z hu hi hz .i64 .i64 n n (by omega) (Int.le_refl _) (by omega) (by omega)
  simpa using hrm
 ·intro j v ct hv hct
  have hsz : z.cells.size = r.lay.length := by have := congrArg List.length hc; simpa using this
  have hj : j < n * i.size := by
   have := (Array.getElem?_eq_some_iff.1 hv).1
   rwa [size_madeCells] at this
  have h2 : (madeCells z.cells (n * i.size))[j]? = some (z.cells[j % z.cells.size]!) := by simp [madeCells, hj]
  rw [h2] at hv
  have hv := Option.some.inj hv
  have hm : j % z.cells.size < z.cells.size := Nat.mod_lt _ (by omega)
  have h3 : z.cells.toList[j % r.lay.length]? = some (zeroVal ct) := by rw [hc, List.getElem?_map, hct]; rfl
  rw [← hv]
  rw [← hsz] at h3
  simp only [Array.getElem?_toList] at h3
  rw [getElem!_def, h3]
end Tv
end Go.Proofs.YtpabdmcbahmjnaaGreat
