/- Part of a proof: T3 T4 T5 T6 T7 T8. -/
import Derived.Test.YtpabdmcbahmjnaaGreatMTA
import Derived.Deep.AppendSrc
import Derived.Deep.MidRow
import Derived.Deep.Heap
namespace Go.Proofs.YtpabdmcbahmjnaaGreat
namespace Tv
open Go Go.RowKit
set_option linter.unusedSimpArgs false
set_option linter.unusedVariables false
def putVals (vs : List Value) (off : Nat) (us : List Value) : List Value := vs.take off ++ us ++ vs.drop (off + us.length)
theorem setCell_size (w : World) (a : Addr) (v : Value) : (w.setCell a v).heap.size = w.heap.size := by
 simp [World.setCell]
theorem setCells_other (b : Nat) : ∀ (vs : List Value) (o : Nat) (w : World) (k : Nat), k ≠ b → (w.setCells b o vs).heap[k]? = w.heap[k]?
 | [], _, _, _, _ => rfl
 | v :: r, o, w, k, h => by
  rw [World.setCells, setCells_other b r (o + 1) _ k h]
  exact Deep.blk_setCell_other w _ v k h
theorem setCells_size (b : Nat) : ∀ (vs : List Value) (o : Nat) (w : World), (w.setCells b o vs).heap.size = w.heap.size
 | [], _, _ => rfl
 | v :: r, o, w => by rw [World.setCells, setCells_size b r, setCell_size]
theorem setCells_rest (b : Nat) : ∀ (vs : List Value) (o : Nat) (w : World), (w.setCells b o vs).os = w.os ∧ (w.setCells b o vs).tape = w.tape ∧ (w.setCells b o vs).output = w.output
 | [], _, _ => ⟨rfl, rfl, rfl⟩
 | v :: r, o, w => by rw [World.setCells]; exact setCells_rest b r (o + 1) _
theorem setCell_same (w : World) (b o : Nat) (v : Value) {cs : Array Value} {T : TypeId} {fr : Nat × Nat} (h : w.heap[b]? = some (.cells cs T fr)) :
  (w.setCell ⟨b, o, none⟩ v).heap[b]? = some (.cells (cs.setIfInBounds o v) T fr) := by
 simp [World.setCell, Array.getElem?_modify, h]
theorem setCells_same (b : Nat) : ∀ (vs : List Value) (o : Nat) (w : World) {cs : Array Value} {T : TypeId} {fr : Nat × Nat}, w.heap[b]? = some (.cells cs T fr) →
  ∃ cs' : Array Value, (w.setCells b o vs).heap[b]? = some (.cells cs' T fr) ∧ cs'.size = cs.size ∧ ∀ i, cs'[i]? = if o ≤ i ∧ i < o + vs.length ∧ i < cs.size then vs[i - o]? else cs[i]?
 | [], o, w, cs, T, fr, h => ⟨cs, h, rfl, fun i => by rw [if_neg]; simp; omega⟩
 | v :: r, o, w, cs, T, fr, h => by
  obtain ⟨cs', h1, h2, h3⟩ := setCells_same b r (o + 1) _ (setCell_same w b o v h)
  refine ⟨cs', h1, by rw [h2]; simp, fun i => ?_⟩
  rw [h3 i]
  simp only [Array.size_setIfInBounds, List.length_cons]
  by_cases hi : i < cs.size
  ·by_cases ho : o = i
   ·subst ho
    rw [if_neg (by omega), if_pos ⟨Nat.le_refl _, by omega, hi⟩, Nat.sub_self, Array.getElem?_setIfInBounds, if_pos rfl, if_pos hi]
    rfl
   ·by_cases h4 : o + 1 ≤ i ∧ i < o + 1 + r.length
    ·rw [if_pos ⟨h4.1, h4.2, hi⟩, if_pos ⟨by omega, by omega, hi⟩, show i - o = (i - (o + 1)) + 1 by omega]
     simp
    ·rw [if_neg (fun hh => h4 ⟨hh.1, hh.2.1⟩), if_neg (fun hh => h4 ⟨by omega, by omega⟩), Array.getElem?_setIfInBounds, if_neg ho]
  ·rw [if_neg (fun hh => hi hh.2.2), if_neg (fun hh => hi hh.2.2), Array.getElem?_eq_none (by simp; omega), Array.getElem?_eq_none (by omega)]
theorem putVals_get (vs : List Value) (off : Nat) (us : List Value) (h : off + us.length ≤ vs.length) (i : Nat) :
  (putVals vs off us)[i]? = if off ≤ i ∧ i < off + us.length ∧ i < vs.length then us[i - off]? else vs[i]? := by
 unfold putVals
 by_cases h1 : i < off
 ·rw [if_neg (by omega), List.append_assoc, List.getElem?_append_left (by simp; omega), List.getElem?_take, if_pos h1]
 ·by_cases h2 : i < off + us.length
  ·rw [if_pos ⟨by omega, h2, by omega⟩, List.getElem?_append_left (by simp; omega), List.getElem?_append_right (by simp; omega)]
   congr 1
   simp
   omega
  ·rw [if_neg (by omega), List.getElem?_append_right (by simp; omega), List.getElem?_drop]
   congr 1
   simp
   omega
theorem setCells_vals {b : Nat} {us : List Value} {o : Nat} {w : World} {cs : Array Value} {T : TypeId} {fr : Nat × Nat} (h : w.heap[b]? = some (.cells cs T fr)) (hl : o + us.length ≤ cs.size) :
  (w.setCells b o us).heap[b]? = some (.cells (putVals cs.toList o us).toArray T fr) := by
 obtain ⟨cs', h1, h2, h3⟩ := setCells_same b us o w h
 rw [h1]
 congr 2
 apply Array.ext'
 apply List.ext_getElem?
 intro i
 rw [List.toList_toArray, putVals_get _ _ _ (by simpa using hl) i]
 have := h3 i
 simpa using this
section
variable {t : Tab} {σ : Sg} {β : Bt} {bx : Bx} {L : Nat} {w w' : World}
theorem Inv.boxAt (h : Inv t σ β bx L w) {id : Nat} {b : Nat} (hb : β id = some b) {cs : List CV} (hc : bx id = some cs) :
  ∃ vs T, w.heap[b]? = some (.cells vs T (0, 0)) ∧ Cells t σ β cs vs.toList ∧ ∀ v ∈ vs.toList, v.oneCell' = true := by
 obtain ⟨b', vs, T, h1, h2, h3, h4⟩ := h.box id cs hc
 rw [hb] at h1
 injection h1 with h1
 subst h1
 exact ⟨vs, T, h2, h3, h4⟩
theorem Inv.boxLt (h : Inv t σ β bx L w) {id : Nat} {b : Nat} (hb : β id = some b) : b < w.heap.size := by
 obtain ⟨cs, hc⟩ := h.dom id b hb
 obtain ⟨vs, T, h2, _⟩ := h.boxAt hb hc
 rcases Nat.lt_or_ge b w.heap.size with h3 | h3
 ·exact h3
 ·rw [Array.getElem?_eq_none h3] at h2; cases h2
theorem Inv.noBox (h : Inv t σ β bx L w) {id : Nat} (hb : bx id = none) : β id = none := by
 cases hc : β id with
 | none => rfl
 | some b =>
  obtain ⟨cs, h1⟩ := h.dom id b hc
  rw [hb] at h1
  cases h1
theorem Inv.same (h : Inv t σ β bx L w) (hs : w.heap.size ≤ w'.heap.size) (hh : ∀ b, b < w.heap.size → w'.heap[b]? = w.heap[b]?) : Inv t σ β bx L w' := by
 refine ⟨?_, ?_, h.inj, h.apart, h.dom, fun b x hb => Nat.lt_of_lt_of_le (h.lt b x hb) hs, h.lim⟩
 ·intro b Ls m hb
  obtain ⟨h1, cs, T, h2, h3⟩ := h.hp b Ls m hb
  exact ⟨h1, cs, T, by rw [hh b (h.lt b _ hb)]; exact h2, h3⟩
 ·intro id cs hc
  obtain ⟨b, vs, T, h1, h2, h3⟩ := h.box id cs hc
  exact ⟨b, vs, T, h1, by rw [hh b (h.boxLt h1)]; exact h2, h3⟩
theorem Inv.drew (h : Inv t σ β bx L w) : Inv t σ β bx L w.drew := h.same (Nat.le_refl _) fun _ _ => rfl
theorem Inv.grow (h : Inv t σ β bx L w) {L' : Nat} (hl : L ≤ L') (hm : L' ≤ lenMax) : Inv t σ β bx L' w := by
 refine ⟨?_, h.box, h.inj, h.apart, h.dom, h.lt, hm⟩
 intro b Ls m hb
 obtain ⟨h1, cs, T, h2, h3, h4⟩ := h.hp b Ls m hb
 exact ⟨h1, cs, T, h2, h3, fun i v ct hv hc => CT.ok_mono (h4 i v ct hv hc) (Le.refl _) hl⟩
theorem alloc_size (w : World) (o : Obj) : (w.alloc o).heap.size = w.heap.size + 1 := by show (w.heap.push o).size = _; simp
theorem alloc_new (w : World) (o : Obj) : (w.alloc o).heap[w.heap.size]? = some o := Deep.blk_alloc_new w o
theorem updSome_le {β : Bt} {d b : Nat} (h : β d = none) : LeB β (upd β d (some b)) := by
 intro id x hx
 rw [upd_ne]
 ·exact hx
 ·intro e; subst e; rw [h] at hx; cases hx
theorem updSg_le {σ : Sg} {b : Nat} {x : List CT × Nat} (h : σ b = none) : Le σ (upd σ b (some x)) := by
 intro id y hy
 rw [upd_ne]
 ·exact hy
 ·intro e; subst e; rw [h] at hy; cases hy
theorem Inv.allocBox (h : Inv t σ β bx L w) {d : Nat} (hd : bx d = none) {cs : List CV} {vs : Array Value} {T : TypeId} (hc : Cells t σ β cs vs.toList) (h1 : ∀ v ∈ vs.toList, v.oneCell' = true) :
  Inv t σ (upd β d (some w.heap.size)) (upd bx d (some cs)) L (w.alloc (.cells vs T)) := by
 have hn := h.noBox hd
 have hle : LeB β (upd β d (some w.heap.size)) := updSome_le hn
 have hsame : Inv t σ β bx L (w.alloc (.cells vs T)) := h.same (by rw [alloc_size]; omega) fun b hb => Deep.blk_alloc_lt _ _ _ hb
 refine ⟨hsame.hp, ?_, ?_, ?_, ?_, hsame.lt, h.lim⟩
 ·intro id cs' hcs
  rw [upd_eq] at hcs
  split at hcs
  ·rename_i e
   subst e
   injection hcs with hcs
   subst hcs
   exact ⟨w.heap.size, vs, T, upd_same _ _ _, alloc_new _ _, hc.mono (Le.refl _) hle, h1⟩
  ·obtain ⟨b, vs', T', h2, h3, h4, h5⟩ := hsame.box id cs' hcs
   exact ⟨b, vs', T', hle _ _ h2, h3, h4.mono (Le.refl _) hle, h5⟩
 ·intro id id' b h2 h3
  rw [upd_eq] at h2 h3
  split at h2 <;> split at h3
  ·omega
  ·injection h2 with h2
   have := h.boxLt h3
   omega
  ·injection h3 with h3
   have := h.boxLt h2
   omega
  ·exact h.inj id id' b h2 h3
 ·intro id b h2
  rw [upd_eq] at h2
  split at h2
  ·injection h2 with h2
   subst h2
   cases hs : σ w.heap.size with
   | none => rfl
   | some x => exact absurd (h.lt _ _ hs) (Nat.lt_irrefl _)
  ·exact h.apart id b h2
 ·intro id b h2
  rw [upd_eq] at h2 ⊢
  split at h2
  ·rename_i e; rw [if_pos e]; exact ⟨cs, rfl⟩
  ·rename_i e; rw [if_neg e]; exact h.dom id b h2
theorem Inv.newNone (h : Inv t σ β bx L w) : σ w.heap.size = none := by
 cases hs : σ w.heap.size with
 | none => rfl
 | some x => exact absurd (h.lt _ _ hs) (Nat.lt_irrefl _)
theorem Inv.allocSig (h : Inv t σ β bx L w) {Ls : List CT} {m : Nat} {vs : Array Value} {T : TypeId} (hp : 0 < Ls.length) (hs : vs.size = m * Ls.length)
  (hc : ∀ i v ct, vs[i]? = some v → Ls[i % Ls.length]? = some ct → ct.ok t σ L v) :
  Inv t (upd σ w.heap.size (some (Ls, m))) β bx L (w.alloc (.cells vs T)) := by
 have hle : Le σ (upd σ w.heap.size (some (Ls, m))) := updSg_le h.newNone
 have hsame : Inv t σ β bx L (w.alloc (.cells vs T)) := h.same (by rw [alloc_size]; omega) fun b hb => Deep.blk_alloc_lt _ _ _ hb
 refine ⟨?_, ?_, h.inj, ?_, h.dom, ?_, h.lim⟩
 ·intro b Ls' m' hb
  rw [upd_eq] at hb
  split at hb
  ·rename_i e
   subst e
   injection hb with hb
   injection hb with h1 h2
   subst h1; subst h2
   exact ⟨hp, vs, T, alloc_new _ _, hs, fun i v ct hv hct => CT.ok_mono (hc i v ct hv hct) hle (Nat.le_refl _)⟩
  ·obtain ⟨h1, cs, T', h2, h3, h4⟩ := hsame.hp b Ls' m' hb
   exact ⟨h1, cs, T', h2, h3, fun i v ct hv hct => CT.ok_mono (h4 i v ct hv hct) hle (Nat.le_refl _)⟩
 ·intro id cs hcs
  obtain ⟨b, vs', T', h2, h3, h4, h5⟩ := hsame.box id cs hcs
  exact ⟨b, vs', T', h2, h3, h4.mono hle (LeB.refl _), h5⟩
 ·intro id b hb
  rw [upd_ne]
  ·exact h.apart id b hb
  ·have := h.boxLt hb
   omega
 ·intro b x hb
  rw [alloc_size]
  rw [upd_eq] at hb
  split at hb
  ·omega
  ·have := h.lt b x hb
   omega
theorem Inv.setBox (h : Inv t σ β bx L w) {id b : Nat} (hb : β id = some b) {cs cs' : List CV} {vs : Array Value} {T : TypeId} {off : Nat} {us : List Value} (hv : w.heap[b]? = some (.cells vs T (0, 0)))
  (hl : off + us.length ≤ vs.size) (hc : Cells t σ β cs' (putVals vs.toList off us)) (h1 : ∀ v ∈ vs.toList, v.oneCell' = true) (h2 : ∀ v ∈ us, v.oneCell' = true) :
  Inv t σ β (upd bx id (some cs')) L (w.setCells b off us) := by
 refine ⟨?_, ?_, h.inj, h.apart, ?_, ?_, h.lim⟩
 ·intro b' Ls m hs
  obtain ⟨h3, cs, T, h4, h5⟩ := h.hp b' Ls m hs
  refine ⟨h3, cs, T, ?_, h5⟩
  rw [setCells_other]
  ·exact h4
  ·intro e; subst e; rw [h.apart id _ hb] at hs; cases hs
 ·intro id' cs'' hcs
  rw [upd_eq] at hcs
  split at hcs
  ·rename_i e
   subst e
   injection hcs with hcs
   subst hcs
   refine ⟨b, _, T, hb, setCells_vals hv hl, by simpa using hc, ?_⟩
   intro v hv'
   rw [List.toList_toArray] at hv'
   unfold putVals at hv'
   rcases List.mem_append.1 hv' with h3 | h3
   ·rcases List.mem_append.1 h3 with h4 | h4
    ·exact h1 v (List.mem_of_mem_take h4)
    ·exact h2 v h4
   ·exact h1 v (List.mem_of_mem_drop h3)
  ·rename_i e
   obtain ⟨b', vs', T', h3, h4, h5⟩ := h.box id' cs'' hcs
   refine ⟨b', vs', T', h3, ?_, h5⟩
   rw [setCells_other]
   ·exact h4
   ·intro e'; subst e'; exact e (h.inj _ _ _ h3 hb)
 ·intro id' b' hb'
  rw [upd_eq]
  split
  ·exact ⟨cs', rfl⟩
  ·exact h.dom id' b' hb'
 ·intro b' x hx
  rw [setCells_size]
  exact h.lt b' x hx
theorem Inv.setSig (h : Inv t σ β bx L w) {b : Nat} {Ls : List CT} {m : Nat} (hb : σ b = some (Ls, m)) {off : Nat} {us : List Value}
  (hc : ∀ i v ct, us[i]? = some v → Ls[(off + i) % Ls.length]? = some ct → ct.ok t σ L v) :
  Inv t σ β bx L (w.setCells b off us) := by
 refine ⟨?_, ?_, h.inj, h.apart, h.dom, ?_, h.lim⟩
 ·intro b' Ls' m' hs
  obtain ⟨h3, cs, T, h4, h5, h6⟩ := h.hp b' Ls' m' hs
  by_cases e : b' = b
  ·subst e
   rw [hb] at hs
   injection hs with hs
   injection hs with e1 e2
   subst e1; subst e2
   obtain ⟨cs', h7, h8, h9⟩ := setCells_same b' us off w h4
   refine ⟨h3, cs', T, h7, by rw [h8]; exact h5, fun i v ct hv hct => ?_⟩
   rw [h9 i] at hv
   split at hv
   ·rename_i hh
    refine hc (i - off) v ct hv ?_
    rw [show off + (i - off) = i by omega]
    exact hct
   ·exact h6 i v ct hv hct
  ·exact ⟨h3, cs, T, by rw [setCells_other _ _ _ _ _ e]; exact h4, h5, h6⟩
 ·intro id cs hcs
  obtain ⟨b', vs', T', h3, h4, h5⟩ := h.box id cs hcs
  refine ⟨b', vs', T', h3, ?_, h5⟩
  rw [setCells_other]
  ·exact h4
  ·intro e; subst e; rw [h.apart _ _ h3] at hb; cases hb
 ·intro b' x hx
  rw [setCells_size]
  exact h.lt b' x hx
theorem Fr.next {tc : Nat → Bool} {σ₀ : Sg} {β₀ : Bt} {w₀ : World} {σ' : Sg} {β' : Bt} (hI : Inv t σ β bx L w) (h : Fr tc σ₀ β₀ w₀ σ β w) (hos : w'.os = w.os) (htape : w'.tape = w.tape) (hout : w'.output = w.output)
  (hsz : w.heap.size ≤ w'.heap.size) (hs : Le σ σ') (hn : ∀ b x, σ' b = some x → σ b = some x ∨ w.heap.size ≤ b) (hb : LeB β β') (ho : ∀ id b, β' id = some b → β id = some b ∨ w.heap.size ≤ b)
  (hh : ∀ b, b < w.heap.size → σ b = none → (∀ id, β id = some b → tc id = false) → w'.heap[b]? = w.heap[b]?) : Fr tc σ₀ β₀ w₀ σ' β' w' := by
 refine ⟨hos.trans h.os, htape.trans h.tape, hout.trans h.output, Nat.le_trans h.size hsz, fun b x hx => hs _ _ (h.sg b x hx), ?_, fun id b hb' => hb _ _ (h.sh id b hb'), ?_, ?_, ?_⟩
 ·intro b x hx
  rcases hn b x hx with h1 | h1
  ·exact h.new b x h1
  ·exact .inr (Nat.le_trans h.size h1)
 ·intro id b hx
  rcases ho id b hx with h1 | h1
  ·exact h.own id b h1
  ·exact .inr (Nat.le_trans h.size h1)
 ·intro b h1 h2 h3
  rw [← h.old b h1 h2 h3]
  refine hh b (Nat.lt_of_lt_of_le h1 h.size) ?_ ?_
  ·cases hs' : σ b with
   | none => rfl
   | some x =>
    rcases h.new b x hs' with h4 | h4
    ·rw [h2] at h4; cases h4
    ·omega
  ·intro id hid
   rcases h.own id b hid with h4 | h4
   ·exact absurd h4 (h3 id)
   ·omega
 ·intro id b h1 h2
  rw [← h.ro id b h1 h2]
  have h3 := h.sh id b h1
  refine hh b (hI.boxLt h3) (hI.apart id b h3) ?_
  intro id' h4
  rw [hI.inj _ _ _ h4 h3]
  exact h2
end
theorem ikEq_eq {a b : IntKind} (h : ikEq a b = true) : a = b := by
 cases a <;> cases b <;> first | rfl | (exact absurd h (by decide))
theorem ctEq_eq {a b : CT} (h : ctEq a b = true) : a = b := by
 cases a <;> cases b <;> simp only [ctEq] at h <;> first | rfl | (exact absurd h (by decide)) | (rw [ikEq_eq h]) | (rw [Nat.eq_of_beq_eq_true h])
theorem ctsEq_eq : ∀ {a b : List CT}, ctsEq a b = true → a = b
 | [], [], _ => rfl
 | [], _ :: _, h => by simp [ctsEq] at h
 | _ :: _, [], h => by simp [ctsEq] at h
 | x :: xs, y :: ys, h => by
  unfold ctsEq at h
  cases hx : ctEq x y with
  | true => rw [hx] at h; rw [ctEq_eq hx, ctsEq_eq h]
  | false => rw [hx] at h; cases h
theorem lenEq_eq {α β : Type} : ∀ {a : List α} {b : List β}, lenEq a b = true → a.length = b.length
 | [], [], _ => rfl
 | [], _ :: _, h => by simp [lenEq] at h
 | _ :: _, [], h => by simp [lenEq] at h
 | x :: xs, y :: ys, h => by
  unfold lenEq at h
  simp [lenEq_eq h]
theorem nth_eq {α : Type} : ∀ (l : List α) (n : Nat), nth l n = l[n]?
 | [], _ => by simp [nth]
 | x :: xs, 0 => by simp [nth]
 | x :: xs, n + 1 => by simp [nth, nth_eq xs n]
theorem memb_iff (i : Nat) : ∀ l : List Nat, memb i l = true ↔ i ∈ l
 | [] => by simp [memb]
 | j :: l => by
  unfold memb
  cases h : Nat.beq i j with
  | true => simp [Nat.eq_of_beq_eq_true h]
  | false =>
   have : i ≠ j := fun e => by subst e; simp at h
   simp [memb_iff i l, this]
theorem dropL_eq : ∀ (n : Nat) (l : List CV), dropL n l = l.drop n
 | 0, l => by simp [dropL]
 | n + 1, [] => by simp [dropL]
 | n + 1, _ :: l => by simp [dropL, dropL_eq n l]
theorem tyL_eq (L : Nat) : ∀ l : List CT, tyL L l = l.map (tyOf L)
 | [] => rfl
 | x :: l => by simp [tyL, tyL_eq L l]
section
variable {t : Tab} {σ : Sg} {β : Bt}
theorem opnC_ok {x : CV} {v : Value} (h : x.ok t σ β v) {K : CV → Prop} (hk : opnC x K) : ∃ y, K y ∧ y.ok t σ β v := by
 cases x with
 | tint k => obtain ⟨n, h1, h2⟩ := h; exact ⟨_, hk n h2, h1, h2⟩
 | tbool => obtain ⟨b, h1⟩ := h; exact ⟨_, hk (b = true), b, h1, Iff.rfl⟩
 | sl E B => obtain ⟨A, n, c, h1, h2, h3⟩ := h; exact ⟨_, hk n h2 h3.2.1, A, c, h1, h3⟩
 | _ => exact ⟨_, hk, h⟩
theorem opnL_ok {xs : List CV} {vs : List Value} (h : Cells t σ β xs vs) : ∀ {K : List CV → Prop}, opnL xs K → ∃ ys, K ys ∧ Cells t σ β ys vs := by
 induction h with
 | nil => exact fun hk => ⟨[], hk, .nil⟩
 | cons h _ ih =>
  intro K hk
  obtain ⟨y, hk1, hy⟩ := opnC_ok h hk
  obtain ⟨ys, hk2, hys⟩ := ih hk1
  exact ⟨_, hk2, .cons hy hys⟩
theorem opnT_ok {x : TV} {v : Value} (h : x.ok t σ β v) {K : TV → Prop} (hk : opnT x K) : ∃ y, K y ∧ y.ok t σ β v := by
 cases x with
 | c x => obtain ⟨y, h1, h2⟩ := opnC_ok (x := x) h hk; exact ⟨_, h1, h2⟩
 | agg xs =>
  obtain ⟨vs, h1, h2⟩ := h
  obtain ⟨ys, h3, h4⟩ := opnL_ok h2 hk
  exact ⟨_, h3, vs, h1, h4⟩
theorem opnP_ok {xs : List TV} {vs : List Value} (h : Parts t σ β xs vs) : ∀ {K : List TV → Prop}, opnP xs K → ∃ ys, K ys ∧ Parts t σ β ys vs := by
 induction h with
 | nil => exact fun hk => ⟨[], hk, .nil⟩
 | cons h _ ih =>
  intro K hk
  obtain ⟨y, hk1, hy⟩ := opnT_ok h hk
  obtain ⟨ys, hk2, hys⟩ := ih hk1
  exact ⟨_, hk2, .cons hy hys⟩
theorem opnV_ok {x : AV} {v : Value} (h : x.ok t σ β v) {K : AV → Prop} (hk : opnV x K) : ∃ y, K y ∧ y.ok t σ β v := by
 cases x with
 | one x => obtain ⟨y, h1, h2⟩ := opnT_ok (x := x) h hk; exact ⟨_, h1, h2⟩
 | tup xs =>
  obtain ⟨vs, h1, h2⟩ := h
  obtain ⟨ys, h3, h4⟩ := opnP_ok h2 hk
  exact ⟨_, h3, vs, h1, h4⟩
theorem allI_all {k : IntKind} {K : Int → Prop} (h : allI k K) {n : Int} (hn : InR k n) : K n := by
 cases k with
 | u64 => exact h n hn hn.1
 | _ => exact h n hn
theorem inR_ok {k : IntKind} {n : Int} (h : inR k n = true) : InR k n := by
 cases k <;> cases n <;> simp only [inR, Nat.ble_eq, kMax, kNeg] at h <;> refine ⟨?_, ?_⟩ <;> simp [IntKind.min, IntKind.max, IntKind.signed, IntKind.bits] <;> omega
theorem cst_ok (v : Value) : (cst v).ok t σ β v := by
 unfold cst
 split
 ·rename_i k n
  split
  ·rename_i h; exact ⟨rfl, inR_ok h⟩
  ·trivial
 ·exact ⟨true, rfl, by simp⟩
 ·exact ⟨false, rfl, by simp⟩
 ·rfl
 ·rfl
 ·trivial
theorem zero_ok {P : Program} {L : Nat} (ct : CT) : (zeroC ct).ok t σ β (zeroVal ct) := by
 cases ct with
 | int k => exact ⟨rfl, by unfold InR; cases k <;> decide⟩
 | bool => exact ⟨false, rfl, by simp⟩
 | str => exact ⟨_, rfl, Nat.zero_le _⟩
 | slice E => exact ⟨none, 0, rfl, Nat.le_refl _, Nat.zero_le _, fun _ => rfl, fun a h => by cases h⟩
 | ptr => exact rfl
theorem zeros_ok : ∀ l : List CT, Cells t σ β (zeroL l) (l.map zeroVal)
 | [] => .nil
 | x :: l => .cons (zero_ok (P := default) (L := 0) x) (zeros_ok l)
theorem zero_one (ct : CT) : (zeroVal ct).oneCell' = true := by cases ct <;> rfl
theorem ty_ok {L : Nat} {ct : CT} {v : Value} (h : ct.ok t σ L v) : (tyOf L ct).ok t σ β v := by
 cases ct with
 | ptr => trivial
 | _ => exact h
theorem isCell_one {x : CV} {v : Value} (h : x.ok t σ β v) (hc : x.isCell = true) : v.oneCell' = true ∧ v.cells = #[v] := by
 cases x with
 | any => cases hc
 | undef => cases hc
 | int k n => obtain ⟨rfl, _⟩ := h; exact ⟨rfl, rfl⟩
 | prop p => obtain ⟨b, rfl, _⟩ := h; exact ⟨rfl, rfl⟩
 | str => obtain ⟨b, rfl, _⟩ := h; exact ⟨rfl, rfl⟩
 | tint k => obtain ⟨b, rfl, _⟩ := h; exact ⟨rfl, rfl⟩
 | tbool => obtain ⟨b, rfl⟩ := h; exact ⟨rfl, rfl⟩
 | sl E B => obtain ⟨A, n, c, rfl, _⟩ := h; exact ⟨rfl, rfl⟩
 | slice E n => obtain ⟨A, c, rfl, _⟩ := h; exact ⟨rfl, rfl⟩
 | nils => cases h; exact ⟨rfl, rfl⟩
 | nilp => cases h; exact ⟨rfl, rfl⟩
 | loc id off => obtain ⟨b, _, rfl⟩ := h; exact ⟨rfl, rfl⟩
 | el T => obtain ⟨b, rfl, _⟩ := h; exact ⟨rfl, rfl⟩
theorem ctok_one {L : Nat} {ct : CT} {v : Value} (h : ct.ok t σ L v) : v.oneCell' = true := by
 cases ct with
 | int k => obtain ⟨n, rfl, _⟩ := h; rfl
 | bool => obtain ⟨b, rfl⟩ := h; rfl
 | str => obtain ⟨b, rfl, _⟩ := h; rfl
 | slice E => obtain ⟨A, n, c, rfl, _⟩ := h; rfl
 | ptr => obtain ⟨A, rfl⟩ := h; rfl
theorem allCell_one {xs : List CV} {vs : List Value} (h : Cells t σ β xs vs) (hc : allCell xs = true) : ∀ v ∈ vs, v.oneCell' = true := by
 induction h with
 | nil => intro v hv; cases hv
 | @cons x v xs vs h _ ih =>
  unfold allCell at hc
  cases hx : x.isCell with
  | false => rw [hx] at hc; cases hc
  | true =>
   rw [hx] at hc
   intro u hu
   rcases List.mem_cons.1 hu with rfl | hu
   ·exact (isCell_one h hx).1
   ·exact ih hc u hu
theorem cellsOf_ok {x : AV} {v : Value} (h : x.ok t σ β v) {ys : List CV} (hc : cellsOf x = some ys) : Cells t σ β ys v.cells.toList ∧ ∀ u ∈ v.cells.toList, u.oneCell' = true := by
 rcases x with x | xs
 ·rcases x with x | xs
  ·simp only [cellsOf] at hc
   cases hx : x.isCell with
   | false => rw [hx] at hc; cases hc
   | true =>
    rw [hx] at hc
    injection hc with hc
    subst hc
    obtain ⟨h1, h2⟩ := isCell_one (x := x) h hx
    rw [h2]
    exact ⟨.cons h .nil, fun u hu => by simp at hu; subst hu; exact h1⟩
  ·simp only [cellsOf] at hc
   cases hx : allCell xs with
   | false => rw [hx] at hc; cases hc
   | true =>
    rw [hx] at hc
    injection hc with hc
    subst hc
    obtain ⟨vs, rfl, h2⟩ := h
    exact ⟨h2, allCell_one h2 hx⟩
 ·simp [cellsOf] at hc
variable {tc : Nat → Bool} {S : St} {d : Option Nat} {K : St → Prop}
theorem takeK_ok : ∀ {ts : List CT} {cs : List CV} {k : List CV → OR}, (takeK ts cs k).wp tc S d K → ts.length ≤ cs.length ∧ (k (cs.take ts.length)).wp tc S d K
 | [], cs, k, h => ⟨Nat.zero_le _, by simpa [takeK] using h⟩
 | _ :: ts, [], k, h => by simp [takeK, OR.wp] at h
 | _ :: ts, c :: cs, k, h => by
  have := takeK_ok (ts := ts) (cs := cs) h
  exact ⟨by simp; exact this.1, by simpa using this.2⟩
theorem putK_ok : ∀ {cs : List CV} {off : Nat} {ys : List CV} {k : List CV → OR}, (putK cs off ys k).wp tc S d K →
  ∃ cs', (k cs').wp tc S d K ∧ ∀ (t : Tab) (σ : Sg) (β : Bt) (vs us : List Value), Cells t σ β cs vs → Cells t σ β ys us → (us = [] → off ≤ vs.length) → off + us.length ≤ vs.length ∧ Cells t σ β cs' (putVals vs off us)
 | cs, off, [], k, h => by
  refine ⟨cs, by cases cs <;> simpa [putK] using h, ?_⟩
  intro t σ β vs us hc hy hn
  cases hy
  have := hn rfl
  refine ⟨by simpa using this, ?_⟩
  unfold putVals
  simpa using hc
 | [], off, y :: ys, k, h => by simp [putK, OR.wp] at h
 | c :: cs, 0, y :: ys, k, h => by
  simp only [putK] at h
  obtain ⟨cs', h1, h2⟩ := putK_ok (cs := cs) (off := 0) (ys := ys) h
  refine ⟨_, h1, ?_⟩
  intro t σ β vs us hc hy hn
  cases hc with
  | cons hc1 hc2 =>
   cases hy with
   | cons hy1 hy2 =>
    obtain ⟨h3, h4⟩ := h2 t σ β _ _ hc2 hy2 (fun _ => Nat.zero_le _)
    refine ⟨by simp at h3 ⊢; omega, ?_⟩
    simp only [putVals, List.take_zero, List.nil_append, List.length_cons, Nat.zero_add, List.cons_append, List.drop_succ_cons] at h4 ⊢
    exact .cons hy1 h4
 | c :: cs, n + 1, y :: ys, k, h => by
  simp only [putK] at h
  obtain ⟨cs', h1, h2⟩ := putK_ok (cs := cs) (off := n) (ys := y :: ys) h
  refine ⟨_, h1, ?_⟩
  intro t σ β vs us hc hy hn
  cases hc with
  | cons hc1 hc2 =>
   obtain ⟨h3, h4⟩ := h2 t σ β _ _ hc2 hy (fun e => by subst e; cases hy)
   refine ⟨by simp; omega, ?_⟩
   simp only [putVals, List.take_succ_cons, List.cons_append, show ∀ m, n + 1 + m = (n + m) + 1 from fun m => by omega, List.drop_succ_cons] at h4 ⊢
   exact .cons hc1 h4
theorem fitK_ok {L : Nat} {x : CV} {ct : CT} {p : OR} (h : (fitK L x ct p).wp tc S d K) : p.wp tc S d K ∧ ∀ v, x.ok t σ β v → ct.ok t σ L v := by
 unfold fitK at h
 split at h
 ·split at h
  ·rename_i hk; exact ⟨h, fun v hv => by rw [← ikEq_eq hk]; exact ⟨_, hv⟩⟩
  ·exact h.elim
 ·split at h
  ·rename_i hk; exact ⟨h, fun v hv => by rw [← ikEq_eq hk]; exact hv⟩
  ·exact h.elim
 ·exact ⟨h, fun v ⟨b, hv, _⟩ => ⟨b, hv⟩⟩
 ·exact ⟨h, fun v hv => hv⟩
 ·exact ⟨h, fun v hv => hv⟩
 ·split at h
  ·rename_i hk
   refine ⟨h.2, fun v ⟨A, c, hv, hs⟩ => ?_⟩
   rw [← Nat.eq_of_beq_eq_true hk]
   exact ⟨A, _, c, hv, h.1, hs⟩
  ·exact h.elim
 ·split at h
  ·rename_i hk
   refine ⟨h.2, fun v ⟨A, n, c, hv, hn, hs⟩ => ?_⟩
   rw [← Nat.eq_of_beq_eq_true hk]
   exact ⟨A, _, c, hv, Nat.le_trans hn h.1, hs⟩
  ·exact h.elim
 ·exact ⟨h, fun v hv => ⟨none, 0, 0, hv, Nat.zero_le _, Nat.le_refl _, Nat.zero_le _, fun _ => rfl, fun a h => by cases h⟩⟩
 ·exact ⟨h, fun v hv => ⟨_, hv⟩⟩
 ·exact ⟨h, fun v ⟨b, _, hv⟩ => ⟨_, hv⟩⟩
 ·exact ⟨h, fun v ⟨b, hv, _⟩ => ⟨_, hv⟩⟩
 ·exact h.elim
theorem fitAll_ok {L : Nat} : ∀ {xs : List CV} {cts : List CT} {p : OR}, (fitAll L xs cts p).wp tc S d K → p.wp tc S d K ∧ xs.length = cts.length ∧ ∀ vs, Cells t σ β xs vs → ∀ (i : Nat) (v : Value) (ct : CT), vs[i]? = some v → cts[i]? = some ct → ct.ok t σ L v
 | [], [], p, h => ⟨h, rfl, fun vs hv i v ct h1 h2 => by simp at h2⟩
 | [], _ :: _, p, h => by simp [fitAll, OR.wp] at h
 | _ :: _, [], p, h => by simp [fitAll, OR.wp] at h
 | x :: xs, ct :: cts, p, h => by
  obtain ⟨h1, h2⟩ := fitK_ok (t := t) (σ := σ) (β := β) h
  obtain ⟨h3, h4, h5⟩ := fitAll_ok h1
  refine ⟨h3, by simp [h4], ?_⟩
  intro vs hv i v ct' e1 e2
  cases hv with
  | cons hx hxs =>
   cases i with
   | zero => simp at e1 e2; subst e1; subst e2; exact h2 _ hx
   | succ i => exact h5 _ hxs i v ct' (by simpa using e1) (by simpa using e2)
end
structure RowOk (P : Program) (t : Tab) (T : TypeId) (r : Row) : Prop where
 pos : 0 < r.lay.length
 info : ∃ i z, P.info? T = some i ∧ i.size = r.lay.length ∧ i.zero = some z ∧ z.cells.toList = r.lay.map zeroVal ∧ (i.bytes ≤ 500 ∨ 32 < r.lay.length)
 agg : r.agg = true → ∃ fs : Array Field, P.underlying T = some (.struct fs) ∧ fs.toList.map (fun f => (f.offset, f.type)) = r.fields
 one : r.agg = false → r.fields = [] ∧ ∃ ct d, r.lay = [ct] ∧ P.underlying T = some d ∧ d.isRow = false ∧ (∀ k, ct = .int k → d = .int k) ∧ (ct = .str → d = .string)
 field : ∀ o ft, (o, ft) ∈ r.fields → ∃ rf, t.row ft = some rf ∧ o + rf.lay.length ≤ r.lay.length ∧ ∀ i, i < rf.lay.length → r.lay[o + i]? = rf.lay[i]?
structure TabOk (P : Program) (t : Tab) : Prop where
 row : ∀ T r, t.row T = some r → RowOk P t T r
 sl : ∀ T e, t.elem T = some e → P.underlying T = some (.slice e) ∧ ∃ r, t.row e = some r ∧ r.lay.length ≤ 32
theorem TabOk.lay {P : Program} {t : Tab} {T : TypeId} {r : Row} (h : t.row T = some r) : t.lay T = r.lay := by
 unfold Tab.lay; rw [h]
def Cov (t : Tab) (N : Nat) (tc : Nat → Bool) (σ₀ : Sg) (β₀ : Bt) (w₀ : World) (K : St → Prop) (a : Act) (w : World) : Prop := ∃ S, K S ∧ Gam t N tc σ₀ β₀ w₀ S a w
section
variable {P : Program} {t : Tab} {N : Nat} {tc : Nat → Bool} {σ₀ : Sg} {β₀ : Bt} {w₀ : World} {K : St → Prop} {a : Act} {w : World} {σ : Sg} {β : Bt}
theorem getD_put (a : Act) (d i : Nat) (u : Value) (h : d < a.tmps.size) : (a.put (some d) u).tmps.getD i Go.undef = if i = d then u else a.tmps.getD i Go.undef := by
 simp only [Act.put, Array.getD_eq_getD_getElem?, Array.getElem?_setIfInBounds]
 by_cases e : d = i
 ·subst e; simp [h]
 ·rw [if_neg e, if_neg (fun h => e h.symm)]
theorem cov_put {S : St} {d : Option Nat} {u : Value} {v : AV} (hI : Inv t σ β S.box S.L w) (hF : Fr tc σ₀ β₀ w₀ σ β w) (hn : a.tmps.size = N) (hd : a.defers = [])
  (he : ∀ i, (S.env i).ok t σ β (a.tmps.getD i Go.undef)) (hdN : ∀ d', d = some d' → d' < N) (hv : v.ok t σ β u) (h : opnV v fun v => S.put d v K) : Cov t N tc σ₀ β₀ w₀ K (a.put d u) w := by
 obtain ⟨y, h1, h2⟩ := opnV_ok hv h
 obtain ⟨e, b, L⟩ := S
 cases d with
 | none => exact ⟨_, h1, σ, β, hI, hF, hn, hd, he⟩
 | some d =>
  have hlt : d < a.tmps.size := by rw [hn]; exact hdN d rfl
  refine ⟨_, h1, σ, β, hI, hF, by simp [Act.put, hn], hd, fun i => ?_⟩
  rw [getD_put a d i u hlt]
  show (upd e d y i).ok t σ β _
  rw [upd_eq]
  split
  ·exact h2
  ·exact he i
theorem look_ok {S : St} (he : ∀ i, (S.env i).ok t σ β (a.tmps.getD i Go.undef)) (x : Operand) : (look S x).ok t σ β (a.eval x) := by
 cases x with
 | tmp i => exact he i
 | const v => exact cst_ok v
 | global g => trivial
 | func f => trivial
theorem Gam.put {S : St} (g : Gam t N tc σ₀ β₀ w₀ S a w) {d : Option Nat} (hdN : ∀ d', d = some d' → d' < N) {u : Value} {v : AV} (hv : ∀ σ β, Inv t σ β S.box S.L w → (∀ i, (S.env i).ok t σ β (a.tmps.getD i Go.undef)) → v.ok t σ β u)
  (h : opnV v fun v => S.put d v K) : Cov t N tc σ₀ β₀ w₀ K (a.put d u) w := by
 obtain ⟨σ, β, hI, hF, hn, hd, he⟩ := g
 exact cov_put hI hF hn hd he hdN (hv σ β hI he) h
def Yld (P : Program) (a : Act) (o : Oper) (u : Value) : Prop := ∀ w', (execOp a.eval o).run P w' = .ok (.value u) w'
variable {S : St} {o : Oper} {E : Env}
theorem move_ok {x : Operand} (ho : o.op = .move x ∨ o.op = .assign x) (g : Gam t N tc σ₀ β₀ w₀ S a w) (hdN : ∀ d', o.dst = some d' → d' < N) (h : (OR.det (look S x)).wp tc S o.dst K) :
  Yld P a o (a.eval x) ∧ Cov t N tc σ₀ β₀ w₀ K (a.put o.dst (a.eval x)) w :=
 ⟨fun w' => by rcases ho with ho | ho <;> simp [execOp, ho], g.put hdN (fun σ β hI he => look_ok he x) h⟩
theorem prop_inv {x : AV} {v : Value} {p : Prop} (h : x.ok t σ β v) (e : x = .one (.c (.prop p))) : ∃ b, v = .bool b ∧ (b = true ↔ p) := by subst e; exact h
theorem int_inv {x : AV} {v : Value} {k : IntKind} {n : Int} (h : x.ok t σ β v) (e : x = .one (.c (.int k n))) : v = .int k n ∧ InR k n := by subst e; exact h
theorem pick_ok {c x y : Operand} (ho : o.op = .pick c x y) (g : Gam t N tc σ₀ β₀ w₀ S a w) (hdN : ∀ d', o.dst = some d' → d' < N) (h : (opR E o S).wp tc S o.dst K) :
  ∃ u, Yld P a o u ∧ Cov t N tc σ₀ β₀ w₀ K (a.put o.dst u) w := by
 have g' := g
 obtain ⟨σ, β, hI, hF, hn, hd, he⟩ := g'
 unfold opR at h
 simp only [ho] at h
 split at h
 ·rename_i p hp
  obtain ⟨b, hb, hbp⟩ := prop_inv (look_ok he c) hp
  obtain ⟨h1, h2⟩ := h
  cases b with
  | true => exact ⟨a.eval x, fun w' => by simp [execOp, ho, hb, asBool], g.put hdN (fun σ β hI he => look_ok he x) (h1 (hbp.1 rfl))⟩
  | false => exact ⟨a.eval y, fun w' => by simp [execOp, ho, hb, asBool], g.put hdN (fun σ β hI he => look_ok he y) (h2 fun hp => by cases hbp.2 hp)⟩
 ·exact h.elim
theorem nilCheck_ok {x : Operand} (ho : o.op = .nilCheck x) (g : Gam t N tc σ₀ β₀ w₀ S a w) (hdN : ∀ d', o.dst = some d' → d' < N) (h : (opR E o S).wp tc S o.dst K) :
  ∃ u, Yld P a o u ∧ Cov t N tc σ₀ β₀ w₀ K (a.put o.dst u) w := by
 have g' := g
 obtain ⟨σ, β, hI, hF, hn, hd, he⟩ := g'
 have hx := look_ok he x
 unfold opR at h
 simp only [ho] at h
 refine ⟨a.eval x, ?_, ?_⟩
 ·intro w'
  split at h
  ·rename_i id off e
   rw [e] at hx
   obtain ⟨b, _, hv⟩ := hx
   simp [execOp, ho, hv]
  ·rename_i T e
   rw [e] at hx
   obtain ⟨b, hv, _⟩ := hx
   simp [execOp, ho, hv]
  ·exact h.elim
 ·split at h
  ·rename_i id off e
   exact g.put hdN (fun σ β hI he => by have := look_ok he x; rw [e] at this; exact this) h
  ·rename_i T e
   exact g.put hdN (fun σ β hI he => by have := look_ok he x; rw [e] at this; exact this) h
  ·exact h.elim
theorem not_ok {op : UnOp} {T : TypeId} {x : Operand} (ho : o.op = .unOp op T x) (g : Gam t N tc σ₀ β₀ w₀ S a w) (hdN : ∀ d', o.dst = some d' → d' < N) (h : (opR E o S).wp tc S o.dst K) :
  ∃ u, Yld P a o u ∧ Cov t N tc σ₀ β₀ w₀ K (a.put o.dst u) w := by
 have g' := g
 obtain ⟨σ, β, hI, hF, hn, hd, he⟩ := g'
 have hx := look_ok he x
 unfold opR at h
 simp only [ho] at h
 split at h
 ·rename_i p e
  obtain ⟨b, hb, hbp⟩ := prop_inv hx e
  have hv : ∀ σ β, (cp (¬ p)).ok t σ β (.bool !b) := fun σ β => ⟨!b, rfl, by cases b <;> simp_all⟩
  exact ⟨.bool !b, fun w' => by simp [execOp, ho, hb, Op.unary], g.put hdN (fun σ β hI he => hv σ β) h⟩
 ·exact h.elim
theorem extract_ok {x : Operand} {i : Nat} (ho : o.op = .extract x i) (g : Gam t N tc σ₀ β₀ w₀ S a w) (hdN : ∀ d', o.dst = some d' → d' < N) (h : (opR E o S).wp tc S o.dst K) :
  ∃ u, Yld P a o u ∧ Cov t N tc σ₀ β₀ w₀ K (a.put o.dst u) w := by
 have g' := g
 obtain ⟨σ, β, hI, hF, hn, hd, he⟩ := g'
 have hx := look_ok he x
 unfold opR at h
 simp only [ho] at h
 split at h
 ·rename_i xs e
  split at h
  ·rename_i y hy
   rw [nth_eq] at hy
   rw [e] at hx
   obtain ⟨vs, hv, hp⟩ := hx
   obtain ⟨u, hu, _⟩ := hp.get hy
   have hu' : vs[i]? = some u := by simpa using hu
   refine ⟨u, fun w' => by simp [execOp, ho, hv, Instr.extract, hu'], g.put hdN (fun σ β hI he => ?_) h⟩
   have hx := look_ok he x
   rw [e] at hx
   obtain ⟨vs', hv', hp'⟩ := hx
   rw [hv] at hv'
   injection hv' with hv'
   subst hv'
   obtain ⟨u', hu1, hu2⟩ := hp'.get hy
   rw [hu] at hu1
   injection hu1 with hu1
   subst hu1
   exact hu2
  ·exact h.elim
 ·exact h.elim
theorem wrap_inR (k : IntKind) (n : Int) : InR k (k.wrap n) := by
 unfold InR IntKind.wrap
 cases k <;> simp [IntKind.min, IntKind.max, IntKind.signed, IntKind.bits] <;> (try split) <;> omega
theorem wrap_id {k : IntKind} {n : Int} (h : InR k n) : k.wrap n = n := by
 unfold InR at h
 unfold IntKind.wrap
 cases k <;> simp [IntKind.min, IntKind.max, IntKind.signed, IntKind.bits] at h ⊢ <;> (try split) <;> omega
end
section
variable {P : Program} {t : Tab} {N : Nat} {tc : Nat → Bool} {σ₀ : Sg} {β₀ : Bt} {w₀ : World} {K : St → Prop} {a : Act} {w : World} {σ : Sg} {β : Bt}
variable {S : St} {o : Oper} {E : Env}
theorem Gam.int (g : Gam t N tc σ₀ β₀ w₀ S a w) {d : Option Nat} (hdN : ∀ d', d = some d' → d' < N) {k : IntKind} {q : Int → Prop} {n : Int} (hn : InR k n) (hq : q n) (h : (OR.int k q).wp tc S d K) :
  Cov t N tc σ₀ β₀ w₀ K (a.put d (.int k n)) w := by
 have := allI_all h hn hq
 exact g.put (v := .one (.c (.int k n))) hdN (fun σ β hI he => ⟨rfl, hn⟩) this
theorem Gam.prop (g : Gam t N tc σ₀ β₀ w₀ S a w) {d : Option Nat} (hdN : ∀ d', d = some d' → d' < N) {p : Prop} {b : Bool} (hb : b = true ↔ p) (h : (OR.det (cp p)).wp tc S d K) :
  Cov t N tc σ₀ β₀ w₀ K (a.put d (.bool b)) w :=
 g.put (v := cp p) hdN (fun σ β hI he => ⟨b, rfl, hb⟩) h
theorem i64_min : IntKind.i64.min = -9223372036854775808 := by decide
theorem i64_max : IntKind.i64.max = 9223372036854775807 := by decide
theorem u64_min : IntKind.u64.min = 0 := by decide
theorem u64_max : IntKind.u64.max = 18446744073709551615 := by decide
theorem Gam.sum (g : Gam t N tc σ₀ β₀ w₀ S a w) {d : Option Nat} (hdN : ∀ d', d = some d' → d' < N) {k : IntKind} {m : Int} (h : (sumR k m).wp tc S d K) :
  Cov t N tc σ₀ β₀ w₀ K (a.put d (.int k (k.wrap m))) w := by
 cases k with
 | i64 => exact g.int hdN (wrap_inR _ _) (fun h1 h2 => wrap_id ⟨by rw [i64_min]; exact h1, by rw [i64_max]; exact h2⟩) h
 | u64 => exact g.int hdN (wrap_inR _ _) (fun h1 h2 => wrap_id ⟨by rw [u64_min]; exact h1, by rw [u64_max]; exact h2⟩) h
 | _ => exact g.int hdN (wrap_inR _ _) (fun h1 h2 => wrap_id ⟨h1, h2⟩) h
theorem shr_inR {k : IntKind} {n : Int} (h : InR k n) (m : Nat) : InR k (n.fdiv (2 ^ m)) := by
 have hp : (0 : Int) < 2 ^ m := Int.pow_pos (by decide)
 rw [Int.fdiv_eq_ediv_of_nonneg _ (Int.le_of_lt hp)]
 obtain ⟨h1, h2⟩ := h
 have h3 : k.min ≤ 0 := by cases k <;> decide
 have h4 : 0 ≤ k.max := by cases k <;> decide
 constructor
 ·rcases Int.lt_or_le n 0 with h5 | h5
  ·have h6 : n ≤ n / 2 ^ m := by
    rw [Int.le_ediv_iff_mul_le hp]
    have h7 : (1 : Int) ≤ 2 ^ m := hp
    have h8 : n * 2 ^ m ≤ n * 1 := Int.mul_le_mul_of_nonpos_left (Int.le_of_lt h5) h7
    omega
   omega
  ·have := Int.ediv_nonneg h5 (Int.le_of_lt hp)
   omega
 ·rcases Int.lt_or_le n 0 with h5 | h5
  ·have : n / 2 ^ m < 0 := Int.ediv_neg_of_neg_of_pos h5 hp
   omega
  ·have : n / 2 ^ m ≤ n := Int.ediv_le_self _ h5
   omega
theorem tmod_inR {k : IntKind} {n : Int} (h : InR k n) (m : Int) : InR k (n.tmod m) := by
 obtain ⟨h1, h2⟩ := h
 have h3 : k.min ≤ 0 := by cases k <;> decide
 have h4 : 0 ≤ k.max := by cases k <;> decide
 rcases Int.le_total 0 n with h5 | h5
 ·have h6 := Int.tmod_nonneg m h5
  have h7 : n.tmod m ≤ n := by
   obtain ⟨u, rfl⟩ := Int.eq_ofNat_of_zero_le h5
   have : ((u : Int).tmod m).natAbs ≤ u := by
    rw [Int.natAbs_tmod]; exact Nat.mod_le _ _
   omega
  exact ⟨by omega, by omega⟩
 ·have h6 : n.tmod m ≤ 0 := by
   have := Int.tmod_nonneg m (a := -n) (by omega)
   rw [Int.neg_tmod] at this
   omega
  have h7 : n ≤ n.tmod m := by
   have : (n.tmod m).natAbs ≤ n.natAbs := by
    rw [Int.natAbs_tmod]; exact Nat.mod_le _ _
   omega
  exact ⟨by omega, by omega⟩
theorem binI_ok {op : BinOp} {k : IntKind} {x y : Int} (hx : InR k x) (g : Gam t N tc σ₀ β₀ w₀ S a w) {d : Option Nat} (hdN : ∀ d', d = some d' → d' < N) {k' : IntKind} (hk : isShift op = true ∨ k = k')
  (h : (binI op k x y).wp tc S d K) : ∃ u, (∀ T w', (Go.binOp op T (.int k x) (.int k' y)).run P w' = .ok u w') ∧ Cov t N tc σ₀ β₀ w₀ K (a.put d u) w := by
 cases op with
 | eql =>
  rcases hk with hk | rfl
  ·cases hk
  ·exact ⟨.bool (x == y), fun T w' => by simp only [Go.binOp]; rw [if_neg (fun h => h rfl)]; rfl, g.prop hdN (by simp) h⟩
 | neq =>
  rcases hk with hk | rfl
  ·cases hk
  ·exact ⟨.bool (x != y), fun T w' => by simp only [Go.binOp]; rw [if_neg (fun h => h rfl)]; rfl, g.prop hdN (by simp) h⟩
 | lss =>
  rcases hk with hk | rfl
  ·cases hk
  ·exact ⟨.bool (decide (x < y)), fun T w' => by simp only [Go.binOp]; rw [if_neg (fun h => h rfl)]; rfl, g.prop hdN (by simp) h⟩
 | leq =>
  rcases hk with hk | rfl
  ·cases hk
  ·exact ⟨.bool (decide (x ≤ y)), fun T w' => by simp only [Go.binOp]; rw [if_neg (fun h => h rfl)]; rfl, g.prop hdN (by simp) h⟩
 | gtr =>
  rcases hk with hk | rfl
  ·cases hk
  ·exact ⟨.bool (decide (x > y)), fun T w' => by simp only [Go.binOp]; rw [if_neg (fun h => h rfl)]; rfl, g.prop hdN (by simp) h⟩
 | geq =>
  rcases hk with hk | rfl
  ·cases hk
  ·exact ⟨.bool (decide (x ≥ y)), fun T w' => by simp only [Go.binOp]; rw [if_neg (fun h => h rfl)]; rfl, g.prop hdN (by simp) h⟩
 | add =>
  rcases hk with hk | rfl
  ·cases hk
  ·exact ⟨.int k (k.wrap (x + y)), fun T w' => by simp only [Go.binOp]; rw [if_neg (fun h => h rfl)]; rfl, g.sum hdN h⟩
 | sub =>
  rcases hk with hk | rfl
  ·cases hk
  ·exact ⟨.int k (k.wrap (x - y)), fun T w' => by simp only [Go.binOp]; rw [if_neg (fun h => h rfl)]; rfl, g.sum hdN h⟩
 | mul =>
  rcases hk with hk | rfl
  ·cases hk
  ·exact ⟨.int k (k.wrap (x * y)), fun T w' => by simp only [Go.binOp]; rw [if_neg (fun h => h rfl)]; rfl, g.sum hdN h⟩
 | and =>
  rcases hk with hk | rfl
  ·cases hk
  ·exact ⟨.int k (xop .and k x y), fun T w' => by simp only [Go.binOp]; rw [if_neg (fun h => h rfl)]; rfl, g.int (q := fun n => n = xop .and k x y) hdN (wrap_inR _ _) rfl h⟩
 | or =>
  rcases hk with hk | rfl
  ·cases hk
  ·exact ⟨.int k (xop .or k x y), fun T w' => by simp only [Go.binOp]; rw [if_neg (fun h => h rfl)]; rfl, g.int (q := fun n => n = xop .or k x y) hdN (wrap_inR _ _) rfl h⟩
 | xor =>
  rcases hk with hk | rfl
  ·cases hk
  ·exact ⟨.int k (xop .xor k x y), fun T w' => by simp only [Go.binOp]; rw [if_neg (fun h => h rfl)]; rfl, g.int (q := fun n => n = xop .xor k x y) hdN (wrap_inR _ _) rfl h⟩
 | andNot =>
  rcases hk with hk | rfl
  ·cases hk
  ·exact ⟨.int k (xop .andNot k x y), fun T w' => by simp only [Go.binOp]; rw [if_neg (fun h => h rfl)]; rfl, g.int (q := fun n => n = xop .andNot k x y) hdN (wrap_inR _ _) rfl h⟩
 | shl =>
  obtain ⟨h1, h2⟩ := h
  exact ⟨.int k (xop .shl k x y), fun T w' => by simp only [Go.binOp, Op.shift]; rw [if_neg (by omega)]; rfl, g.int (q := fun n => n = xop .shl k x y) hdN (wrap_inR _ _) rfl h2⟩
 | shr =>
  obtain ⟨h1, h2⟩ := h
  exact ⟨.int k (xop .shr k x y), fun T w' => by simp only [Go.binOp, Op.shift]; rw [if_neg (by omega)]; rfl, g.int (q := fun n => n = xop .shr k x y) hdN (shr_inR hx _) rfl h2⟩
 | quo =>
  rcases hk with hk | rfl
  ·cases hk
  ·obtain ⟨h1, h2⟩ := h
   exact ⟨.int k (k.wrap (x.tdiv y)), fun T w' => by simp only [Go.binOp]; rw [if_neg (fun h => h rfl)]; simp only [Op.intDiv]; rw [if_neg h1]; rfl, g.int hdN (wrap_inR _ _) trivial h2⟩
 | rem =>
  rcases hk with hk | rfl
  ·cases hk
  ·obtain ⟨h1, h2⟩ := h
   exact ⟨.int k (x.tmod y), fun T w' => by simp only [Go.binOp]; rw [if_neg (fun h => h rfl)]; simp only [Op.intDiv]; rw [if_neg h1]; rfl, g.int hdN (tmod_inR hx _) trivial h2⟩
theorem eqGuard_int (op : BinOp) (T : TypeId) (x y : Operand) (k k' : IntKind) (m n : Int) (w' : World) : (eqGuard op T x y (.int k m) (.int k' n)).run P w' = .ok () w' := by
 cases op <;> rfl
theorem eqGuard_str (op : BinOp) (T : TypeId) (x y : Operand) (m n : ByteArray) (w' : World) : (eqGuard op T x y (.string m) (.string n)).run P w' = .ok () w' := by
 cases op <;> rfl
theorem strOp_ok {op : BinOp} (h : isCmp op = true) (m n : ByteArray) : ∃ b, ∀ T w', (Go.binOp op T (.string m) (.string n)).run P w' = .ok (.bool b) w' := by
 cases op <;> first | (cases h; done) | exact ⟨_, fun T w' => rfl⟩
theorem isCmp_of_isEq {op : BinOp} (h : isEq op = true) : op = .eql ∨ op = .neq := by
 cases op <;> first | (cases h; done) | exact .inl rfl | exact .inr rfl
def Fits (t : Tab) (T : TypeId) (vs : Array Value) : Prop := vs.size = (t.lay T).length ∧ ∃ σ, ∀ (i : Nat) (v : Value) (ct : CT), vs.toList[i]? = some v → (t.lay T)[i]? = some ct → ct.ok t σ 0 v
def EqOk (P : Program) (t : Tab) (eqs : List Nat) : Prop := ∀ T, T ∈ eqs → ∀ op, (op = .eql ∨ op = .neq) → ∀ (x y : Operand) (vs us : Array Value), Fits t T vs → Fits t T us →
 ∃ b, ∀ w', ((do eqGuard op T x y (.agg vs) (.agg us); Go.binOp op T (.agg vs) (.agg us) : Sem Value)).run P w' = .ok (.bool b) w'
theorem bin_ok (hE : EqOk P E.t E.eqs) {op : BinOp} {T T' : TypeId} {x y : Operand} (ho : o.op = .binOp op T x y T') (g : Gam E.t N tc σ₀ β₀ w₀ S a w) (hdN : ∀ d', o.dst = some d' → d' < N) (h : (opR E o S).wp tc S o.dst K) :
  ∃ u, Yld P a o u ∧ Cov E.t N tc σ₀ β₀ w₀ K (a.put o.dst u) w := by
 have g' := g
 obtain ⟨σ, β, hI, hF, hn, hd, he⟩ := g'
 have hx := look_ok he x
 have hy := look_ok he y
 unfold opR at h
 simp only [ho] at h
 unfold bin at h
 split at h
 ·rename_i k m k' n e1 e2
  obtain ⟨v1, r1⟩ := int_inv hx e1
  obtain ⟨v2, r2⟩ := int_inv hy e2
  split at h
  ·rename_i hk
   rw [Bool.or_eq_true] at hk
   obtain ⟨u, h1, h2⟩ := binI_ok (P := P) r1 g hdN (hk.imp id ikEq_eq) h
   refine ⟨u, fun w' => ?_, h2⟩
   simp only [execOp, ho, v1, v2, Sem.run_bind, eqGuard_int, Result.andThen_ok, h1]
   rfl
  ·exact h.elim
 ·rename_i e1 e2
  rw [e1] at hx
  rw [e2] at hy
  obtain ⟨m, v1, _⟩ := hx
  obtain ⟨n, v2, _⟩ := hy
  split at h
  ·rename_i hk
   obtain ⟨b, hb⟩ := strOp_ok (P := P) hk m n
   refine ⟨.bool b, fun w' => ?_, g.put (v := .one (.c .tbool)) hdN (fun σ β hI he => ⟨b, rfl⟩) h⟩
   simp only [execOp, ho, v1, v2, Sem.run_bind, eqGuard_str, Result.andThen_ok, hb]
   rfl
  ·exact h.elim
 ·rename_i xs ys e1 e2
  rw [e1] at hx
  rw [e2] at hy
  obtain ⟨vs, v1, hx⟩ := hx
  obtain ⟨us, v2, hy⟩ := hy
  split at h
  ·rename_i hk
   rw [Bool.and_eq_true] at hk
   obtain ⟨h1, l1, f1⟩ := fitAll_ok (t := E.t) (σ := σ) (β := β) h
   obtain ⟨h2, l2, f2⟩ := fitAll_ok (t := E.t) (σ := σ) (β := β) h1
   obtain ⟨b, hb⟩ := hE T ((memb_iff _ _).1 hk.2) op (isCmp_of_isEq hk.1) x y vs us ⟨by rw [← l1, hx.length]; simp, σ, f1 _ hx⟩ ⟨by rw [← l2, hy.length]; simp, σ, f2 _ hy⟩
   refine ⟨.bool b, fun w' => ?_, g.put (v := .one (.c .tbool)) hdN (fun σ β hI he => ⟨b, rfl⟩) h2⟩
   have := hb w'
   simp only [execOp, ho, v1, v2]
   rw [Sem.run_bind, this]
   rfl
  ·exact h.elim
 ·exact h.elim
end
section
variable {P : Program} {t : Tab} {N : Nat} {tc : Nat → Bool} {σ₀ : Sg} {β₀ : Bt} {w₀ : World} {K : St → Prop} {a : Act} {w : World} {σ : Sg} {β : Bt}
variable {S : St} {o : Oper} {E : Env}
theorem TabOk.size (hT : TabOk P t) {T : TypeId} {r : Row} (h : t.row T = some r) (w' : World) : (sizeOf T).run P w' = .ok r.lay.length w' := by
 obtain ⟨i, z, h1, h2, _⟩ := (hT.row T r h).info
 simp [sizeOf, typeInfo, h1, h2]
theorem TabOk.pos (hT : TabOk P t) {T : TypeId} {r : Row} (h : t.row T = some r) : 0 < r.lay.length := (hT.row T r h).pos
theorem TabOk.plain (hT : TabOk P t) {T : TypeId} {r : Row} (h : t.row T = some r) (ha : r.agg = false) : ∃ ct d, r.lay = [ct] ∧ P.underlying T = some d ∧ d.isRow = false ∧ (∀ k, ct = .int k → d = .int k) ∧ (ct = .str → d = .string) :=
 ((hT.row T r h).one ha).2
theorem convert_ok (hT : TabOk P E.t) {U T : TypeId} {x : Operand} (ho : o.op = .convert U T x) (g : Gam E.t N tc σ₀ β₀ w₀ S a w) (hdN : ∀ d', o.dst = some d' → d' < N) (h : (opR E o S).wp tc S o.dst K) :
  ∃ u, Yld P a o u ∧ Cov E.t N tc σ₀ β₀ w₀ K (a.put o.dst u) w := by
 have g' := g
 obtain ⟨σ, β, hI, hF, hn, hd, he⟩ := g'
 have hx := look_ok he x
 unfold opR at h
 simp only [ho] at h
 split at h
 ·rename_i r r' k n e1 e2 e3
  obtain ⟨v1, r1⟩ := int_inv hx e3
  split at h
  ·rename_i k' f1 f2 f3
   obtain ⟨ct, d, g1, g2, _, g3, _⟩ := hT.plain e1 f2
   obtain ⟨ct', d', g1', g2', _⟩ := hT.plain e2 f3
   rw [f1] at g1
   injection g1 with g1
   have g4 := g3 k' g1.symm
   subst g4
   refine ⟨.int k' (k'.wrap n), fun w' => ?_, g.int (q := fun m => m = xconv k' n) hdN (wrap_inR _ _) rfl h⟩
   simp only [execOp, ho, v1]
   simp [convert, run_underlying g2, run_underlying g2', Conv.intToInt]
  ·exact h.elim
 ·exact h.elim
theorem optI_ok (he : ∀ i, (S.env i).ok t σ β (a.tmps.getD i Go.undef)) {x : Option Operand} {d n : Int} (h : optI S x d = some n) :
  (x = none ∧ n = d) ∨ ∃ y k, x = some y ∧ a.eval y = .int k n := by
 unfold optI at h
 split at h
 ·injection h with h; exact .inl ⟨rfl, h.symm⟩
 ·rename_i y
  split at h
  ·rename_i k m e
   injection h with h
   subst h
   exact .inr ⟨y, k, rfl, (int_inv (look_ok he y) e).1⟩
  ·cases h
theorem sliceBound_ok {k : IntKind} {i : Int} {y : Nat} {c : BoundsCode} (h0 : 0 ≤ i) (h1 : i ≤ y) (w' : World) : (Instr.sliceBound (.int k i) y c).run P w' = .ok i.toNat w' := by
 simp [Instr.sliceBound, asIntOf, h0, h1]
theorem slice_run (hT : TabOk P t) {T e : TypeId} {A : Option Addr} {n c : Nat} {lo hi : Option Value} {l h : Nat} (h1 : t.elem T = some e) (hlh : l ≤ h) (hhc : h ≤ c)
  (hlo : (lo = none ∧ l = 0) ∨ ∃ k, lo = some (.int k l)) (hhi : (hi = none ∧ h = n) ∨ ∃ k, hi = some (.int k h)) (w' : World) :
  (Instr.sliceAt T (.slice A n c) lo hi none).run P w' = .ok (.slice (if c = l then A else A.map (·.add (l * (t.lay e).length))) (h - l) (c - l)) w' := by
 obtain ⟨hu, r, hr, _⟩ := hT.sl T e h1
 have hs := fun w' => hT.size hr w'
 have hb : ∀ w', (Instr.sliceBounds true n c lo hi none).run P w' = .ok (l, h, c) w' := by
  intro w'
  rcases hlo with ⟨rfl, rfl⟩ | ⟨k, rfl⟩ <;> rcases hhi with ⟨rfl, rfl⟩ | ⟨k', rfl⟩ <;>
   simp [Instr.sliceBounds, sliceBound_ok, hlh, hhc, Sem.run_bind]
  all_goals first
   | rw [sliceBound_ok (by omega) (by omega)]; simp
   | (rw [sliceBound_ok (by omega) (by omega)]; simp [sliceBound_ok, hlh])
 have hsl : t.lay e = r.lay := TabOk.lay (P := P) hr
 simp [Instr.sliceAt, Instr.slice, run_underlying hu, hb, hs, hsl]
theorem slice_ok (hT : TabOk P E.t) {T : TypeId} {x : Operand} {lo hi mx : Option Operand} (ho : o.op = .slice T x lo hi mx) (g : Gam E.t N tc σ₀ β₀ w₀ S a w) (hdN : ∀ d', o.dst = some d' → d' < N) (h : (opR E o S).wp tc S o.dst K) :
  ∃ u, Yld P a o u ∧ Cov E.t N tc σ₀ β₀ w₀ K (a.put o.dst u) w := by
 have g' := g
 obtain ⟨σ, β, hI, hF, hn, hd, he⟩ := g'
 have hx := look_ok he x
 cases mx with
 | some mx => unfold opR at h; simp only [ho] at h; exact h.elim
 | none =>
 unfold opR at h
 simp only [ho] at h
 split at h
 ·rename_i e F n e1 e2
  rw [e2] at hx
  obtain ⟨A, c, hv, hs⟩ := hx
  split at h
  ·rename_i l hh f1 f2 f3
   have f0 := Nat.eq_of_beq_eq_true f1
   subst f0
   obtain ⟨⟨h1, h2, h3⟩, h4⟩ := h
   obtain ⟨l', rfl⟩ := Int.eq_ofNat_of_zero_le h1
   obtain ⟨h', rfl⟩ := Int.eq_ofNat_of_zero_le (Int.le_trans h1 h2)
   have h2' : l' ≤ h' := by omega
   have h3' : h' ≤ n := by omega
   have hlo : (lo.map a.eval = none ∧ l' = 0) ∨ ∃ k, lo.map a.eval = some (.int k (l' : Int)) := by
    rcases optI_ok he f2 with ⟨q1, q2⟩ | ⟨y, k, q1, q2⟩
    ·exact .inl ⟨by rw [q1]; rfl, by omega⟩
    ·exact .inr ⟨k, by rw [q1]; simp [q2]⟩
   have hhi : (hi.map a.eval = none ∧ h' = n) ∨ ∃ k, hi.map a.eval = some (.int k (h' : Int)) := by
    rcases optI_ok he f3 with ⟨q1, q2⟩ | ⟨y, k, q1, q2⟩
    ·exact .inl ⟨by rw [q1]; rfl, by omega⟩
    ·exact .inr ⟨k, by rw [q1]; simp [q2]⟩
   have hnc := hs.1
   refine ⟨_, fun w' => ?_, g.put (v := .one (.c (.slice e ((h' : Int) - l').toNat))) hdN (u := .slice (if c = l' then A else A.map (·.add (l' * (E.t.lay e).length))) (h' - l') (c - l')) (fun σ β hI he => ?_) h4⟩
   ·simp only [execOp, ho, hv, Option.map_none]
    rw [Sem.run_bind, slice_run hT e1 h2' (by omega) hlo hhi]
    rfl
   ·have hx := look_ok he x
    rw [e2] at hx
    obtain ⟨A', c', hv', hs⟩ := hx
    rw [hv] at hv'
    injection hv' with q1 q2 q3
    subst q1; subst q3
    refine ⟨_, _, by rw [show ((h' : Int) - (l' : Int)).toNat = h' - l' by omega], ?_⟩
    obtain ⟨s1, s2, s3, s4⟩ := hs
    refine ⟨by omega, by omega, ?_, ?_⟩
    ·intro hA
     split at hA
     ·omega
     ·rw [Option.map_eq_none_iff] at hA
      have := s3 hA
      omega
    ·intro b hb
     split at hb
     ·rename_i hcl
      obtain ⟨t1, m, q, t2, t3, t4⟩ := s4 b hb
      exact ⟨t1, m, q, t2, t3, by omega⟩
     ·obtain ⟨b', hb', rfl⟩ := Option.map_eq_some_iff.1 hb
      obtain ⟨t1, m, q, t2, t3, t4⟩ := s4 b' hb'
      obtain ⟨bb, bo, bs⟩ := b'
      simp only at t1 t2 t3
      subst t1
      rw [Addr.add_mid]
      refine ⟨rfl, m, q + l', t2, ?_, by omega⟩
      show bo + _ = _
      rw [t3, Nat.add_mul]
  ·exact h.elim
 ·exact h.elim
end
section
variable {P : Program} {t : Tab} {N : Nat} {tc : Nat → Bool} {σ₀ : Sg} {β₀ : Bt} {w₀ : World} {K : St → Prop} {a : Act} {w : World} {σ : Sg} {β : Bt}
variable {S : St} {o : Oper} {E : Env}
theorem nth_mem {α : Type} {l : List α} {i : Nat} {x : α} (h : nth l i = some x) : x ∈ l := by
 rw [nth_eq] at h
 exact List.mem_of_getElem? h
theorem TabOk.fieldOf (hT : TabOk P t) {T : TypeId} {r : Row} (h : t.row T = some r) {f fo ft : Nat} (hf : nth r.fields f = some (fo, ft)) :
  ∃ fs : Array Field, P.underlying T = some (.struct fs) ∧ (∃ F, fs[f]? = some F ∧ F.offset = fo ∧ F.type = ft) ∧
   ∃ rf, t.row ft = some rf ∧ fo + rf.lay.length ≤ r.lay.length ∧ ∀ i, i < rf.lay.length → r.lay[fo + i]? = rf.lay[i]? := by
 have hr := hT.row T r h
 cases ha : r.agg with
 | false => rw [(hr.one ha).1] at hf; simp [nth] at hf
 | true =>
  obtain ⟨fs, h1, h2⟩ := hr.agg ha
  refine ⟨fs, h1, ?_, hr.field fo ft (nth_mem hf)⟩
  rw [nth_eq, ← h2, List.getElem?_map] at hf
  simp only [Option.map_eq_some_iff, Prod.mk.injEq] at hf
  obtain ⟨F, h3, h4, h5⟩ := hf
  exact ⟨F, by simpa using h3, h4, h5⟩
theorem fieldAddr_ok (hT : TabOk P E.t) {T : TypeId} {x : Operand} {f : Nat} (ho : o.op = .fieldAddr T x f) (g : Gam E.t N tc σ₀ β₀ w₀ S a w) (hdN : ∀ d', o.dst = some d' → d' < N) (h : (opR E o S).wp tc S o.dst K) :
  ∃ u, Yld P a o u ∧ Cov E.t N tc σ₀ β₀ w₀ K (a.put o.dst u) w := by
 have g' := g
 obtain ⟨σ, β, hI, hF, hn, hd, he⟩ := g'
 have hx := look_ok he x
 unfold opR at h
 simp only [ho] at h
 split at h
 case h_2 => exact h.elim
 rename_i r e1
 split at h
 case h_2 => exact h.elim
 rename_i fo ft e2
 obtain ⟨fs, h1, ⟨F, h2, h3, h4⟩, rf, h5, h6, h7⟩ := hT.fieldOf e1 e2
 have hrun : ∀ b off w', (Instr.fieldAt T (.pointer (some ⟨b, off, none⟩)) f).run P w' = .ok (.pointer (some ⟨b, off + fo, none⟩)) w' := by
  intro b off w'
  have hp := hT.pos h5
  have hp' : rf.lay.length ≠ 0 := by omega
  simp [Instr.fieldAt, run_underlying h1, h2, Instr.sureAddr, fieldPlace, h4, hT.size h5, hp', h3, Addr.add_mid]
 split at h
 ·rename_i id off e3
  rw [e3] at hx
  obtain ⟨b, hb, hv⟩ := hx
  refine ⟨.pointer (some ⟨b, off + fo, none⟩), fun w' => ?_, g.put (v := .one (.c (.loc id (off + fo)))) hdN (fun σ β hI he => ?_) h⟩
  ·simp only [execOp, ho, hv]
   rw [Sem.run_bind, hrun]
   rfl
  ·have hx := look_ok he x
   rw [e3] at hx
   obtain ⟨b', hb', hv'⟩ := hx
   rw [hv] at hv'
   injection hv' with hv'
   injection hv' with hv'
   injection hv' with hv'
   subst hv'
   exact ⟨b, hb', rfl⟩
 ·rename_i U e3
  rw [e3] at hx
  obtain ⟨p, hv, hs, _⟩ := hx
  obtain ⟨b, off, sp⟩ := p
  simp only at hs
  subst hs
  split at h
  case h_2 => exact h.elim
  rename_i e4
  have e4 := ctsEq_eq e4
  refine ⟨.pointer (some ⟨b, off + fo, none⟩), fun w' => ?_, g.put (v := .one (.c (.el ft))) hdN (fun σ β hI he => ?_) h⟩
  ·simp only [execOp, ho, hv]
   rw [Sem.run_bind, hrun]
   rfl
  ·have hx := look_ok he x
   rw [e3] at hx
   obtain ⟨p', hv', _, Ls, m, q, r', s1, s2, s3, s4, s5⟩ := hx
   rw [hv] at hv'
   injection hv' with hv'
   injection hv' with hv'
   subst hv'
   have hl : E.t.lay ft = rf.lay := TabOk.lay (P := P) h5
   rw [e4] at s4 s5
   refine ⟨_, rfl, rfl, Ls, m, q, r' + fo, s1, ?_, s3, ?_, ?_⟩
   ·show off + fo = _
    simp only at s2
    omega
   ·rw [hl]; omega
   ·intro j hj
    rw [hl] at hj ⊢
    rw [← h7 j hj, ← s5 (fo + j) (by omega)]
    congr 1
    omega
 ·exact h.elim
theorem indexAddr_ok (hT : TabOk P E.t) {T : TypeId} {x i : Operand} (ho : o.op = .indexAddr T x i) (g : Gam E.t N tc σ₀ β₀ w₀ S a w) (hdN : ∀ d', o.dst = some d' → d' < N) (h : (opR E o S).wp tc S o.dst K) :
  ∃ u, Yld P a o u ∧ Cov E.t N tc σ₀ β₀ w₀ K (a.put o.dst u) w := by
 have g' := g
 obtain ⟨σ, β, hI, hF, hn, hd, he⟩ := g'
 have hx := look_ok he x
 have hi := look_ok he i
 unfold opR at h
 simp only [ho] at h
 split at h
 case h_2 => exact h.elim
 rename_i e F n k j e1 e2 e3
 split at h
 case h_2 => exact h.elim
 rename_i f1
 have f1 := Nat.eq_of_beq_eq_true f1
 subst f1
 obtain ⟨⟨h1, h2⟩, h3⟩ := h
 obtain ⟨i1, _⟩ := int_inv hi e3
 rw [e2] at hx
 obtain ⟨A, c, hv, hs⟩ := hx
 obtain ⟨hu, r, hr, _⟩ := hT.sl T e e1
 have hl : E.t.lay e = r.lay := TabOk.lay (P := P) hr
 obtain ⟨j', rfl⟩ := Int.eq_ofNat_of_zero_le h1
 have h2' : j' < n := by omega
 obtain ⟨s1, s2, s3, s4⟩ := hs
 cases A with
 | none => have := s3 rfl; omega
 | some p =>
  obtain ⟨b, off, sp⟩ := p
  obtain ⟨t1, m, q, t2, t3, t4⟩ := s4 _ rfl
  simp only at t1
  subst t1
  refine ⟨.pointer (some ⟨b, off + j' * r.lay.length, none⟩), fun w' => ?_, g.put (v := .one (.c (.el e))) hdN (fun σ β hI he => ?_) h3⟩
  ·have hrun : (Instr.indexAt T (.slice (some ⟨b, off, none⟩) n c) (.int k j')).run P w' = .ok (.pointer (some ⟨b, off + j' * r.lay.length, none⟩)) w' := by
    simp [Instr.indexAt, asIntOf, run_underlying hu, h2', hT.size hr, Addr.add_mid]
   simp only [execOp, ho, hv, i1]
   rw [Sem.run_bind, hrun]
   rfl
  ·have hx := look_ok he x
   rw [e2] at hx
   obtain ⟨A', c', hv', s1, s2, s3, s4⟩ := hx
   rw [hv] at hv'
   injection hv' with q1 q2 q3
   subst q1; subst q3
   obtain ⟨_, m, q, t2, t3, t4⟩ := s4 _ rfl
   simp only at t2 t3
   refine ⟨_, rfl, rfl, _, m, q + j', 0, t2, ?_, by omega, by omega, fun j hj => by rw [Nat.zero_add]⟩
   show off + _ = _
   rw [t3, hl, Nat.add_mul]
   omega
theorem Cells.slice {xs : List CV} {vs : List Value} (h : Cells t σ β xs vs) (o n : Nat) : Cells t σ β ((xs.drop o).take n) ((vs.drop o).take n) := (h.drop o).take n
theorem isAgg_run (hT : TabOk P t) {T : TypeId} {r : Row} (h : t.row T = some r) (w' : World) : (isAgg T).run P w' = .ok r.agg w' := by
 cases ha : r.agg with
 | true =>
  obtain ⟨fs, h1, _⟩ := (hT.row T r h).agg ha
  simp [isAgg, run_underlying h1]
 | false =>
  obtain ⟨ct, d, _, h1, h2, _⟩ := hT.plain h ha
  simp only [isAgg, Sem.run_bind, run_underlying h1, Result.andThen_ok]
  cases d <;> simp_all [TypeDesc.isRow]
theorem field_ok (hT : TabOk P E.t) {T : TypeId} {x : Operand} {f : Nat} (ho : o.op = .field T x f) (g : Gam E.t N tc σ₀ β₀ w₀ S a w) (hdN : ∀ d', o.dst = some d' → d' < N) (h : (opR E o S).wp tc S o.dst K) :
  ∃ u, Yld P a o u ∧ Cov E.t N tc σ₀ β₀ w₀ K (a.put o.dst u) w := by
 have g' := g
 obtain ⟨σ, β, hI, hF, hn, hd, he⟩ := g'
 have hx := look_ok he x
 unfold opR at h
 simp only [ho] at h
 split at h
 case h_2 => exact h.elim
 rename_i r xs e1 e2
 split at h
 case h_2 => exact h.elim
 rename_i fo ft e3
 split at h
 case h_2 => exact h.elim
 rename_i rf e4
 obtain ⟨fs, h1, ⟨F, h2, h3, h4⟩, rf', h5, h6, h7⟩ := hT.fieldOf e1 e3
 rw [e4] at h5
 injection h5 with h5
 subst h5
 rw [e2] at hx
 obtain ⟨vs, hv, hc⟩ := hx
 split at h
 ·rename_i ha
  obtain ⟨h8, h9⟩ := takeK_ok h
  rw [dropL_eq] at h8 h9
  have hrun : ∀ w', (Instr.field T (.agg vs) f).run P w' = .ok (.agg (vs.extract fo (fo + rf.lay.length))) w' := by
   intro w'
   simp [Instr.field, run_underlying h1, h2, asAgg, part, h4, isAgg_run hT e4, ha, hT.size e4, h3]
  refine ⟨_, fun w' => ?_, g.put (v := .one (.agg ((xs.drop fo).take rf.lay.length))) hdN (u := .agg (vs.extract fo (fo + rf.lay.length))) (fun σ β hI he => ?_) h9⟩
  ·simp only [execOp, ho, hv]
   rw [Sem.run_bind, hrun]
   rfl
  ·have hx := look_ok he x
   rw [e2] at hx
   obtain ⟨vs', hv', hc'⟩ := hx
   rw [hv] at hv'
   injection hv' with hv'
   subst hv'
   refine ⟨_, rfl, ?_⟩
   have := hc'.slice fo rf.lay.length
   simpa using this
 ·rename_i ha
  split at h
  case h_2 => exact h.elim
  rename_i y e5
  rw [nth_eq] at e5
  obtain ⟨u, hu, _⟩ := hc.get e5
  have hu' : vs[fo]? = some u := by simpa using hu
  have hrun : ∀ w', (Instr.field T (.agg vs) f).run P w' = .ok u w' := by
   intro w'
   simp [Instr.field, run_underlying h1, h2, asAgg, part, h4, isAgg_run hT e4, ha, h3, hu']
  refine ⟨u, fun w' => ?_, g.put (v := .one (.c y)) hdN (fun σ β hI he => ?_) h⟩
  ·simp only [execOp, ho, hv]
   rw [Sem.run_bind, hrun]
   rfl
  ·have hx := look_ok he x
   rw [e2] at hx
   obtain ⟨vs', hv', hc'⟩ := hx
   rw [hv] at hv'
   injection hv' with hv'
   subst hv'
   obtain ⟨u', hu1, hu2⟩ := hc'.get e5
   rw [hu] at hu1
   injection hu1 with hu1
   subst hu1
   exact hu2
end
end Tv
end Go.Proofs.YtpabdmcbahmjnaaGreat
