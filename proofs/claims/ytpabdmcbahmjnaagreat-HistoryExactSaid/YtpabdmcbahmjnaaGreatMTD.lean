/- Part of a proof: T15 T16 T17. -/
import Derived.Test.YtpabdmcbahmjnaaGreatMTC
import Derived.OrdersHeld
import Derived.Deep.LoopGhost
namespace Go.Proofs.YtpabdmcbahmjnaaGreat
namespace Tv
open Go Go.RowKit
set_option linter.unusedSimpArgs false
set_option linter.unusedVariables false
section
variable {P : Program} {ops : Array Oper} {Q : Exit → Act → World → Prop} {T : List Nat} {H : World → Prop}
def wpAnyT (P : Program) (ops : Array Oper) (Q : Exit → Act → World → Prop) (T : List Nat) (H : World → Prop) : Nat → Array Bool → Act → World → Prop
 | 0, listed, a, w => Region.ready .any ops listed = [] ∧ Q .normal a w
 | fuel + 1, listed, a, w => (Region.ready .any ops listed = [] → Q .normal a w) ∧
   ∀ i ∈ Region.ready .any ops listed, wpOp P ops Q i (fun a' w' => (memb i T = false → H w → H w') ∧ wpAnyT P ops Q T H fuel (listed.setIfInBounds i true) a' w') a w
theorem wpAny_of_T : ∀ (fuel : Nat) (listed : Array Bool) (a : Act) (w : World), wpAnyT P ops Q T H fuel listed a w → wpAny P .any ops Q fuel listed a w
 | 0, _, _, _, h => h
 | fuel + 1, _, _, _, h => ⟨h.1, fun i hi => wpOp_mono (fun a' w' h' => wpAny_of_T fuel _ a' w' h'.2) (h.2 i hi)⟩
theorem ready_unlisted {listed : Array Bool} {i : Nat} (h : i ∈ Region.ready .any ops listed) : listed.getD i true = false := (mem_ready.1 h).1
theorem getD_flip {listed : Array Bool} {i : Nat} (h : listed.getD i true = false) : listed.getD i false = false := by
 rcases Nat.lt_or_ge i listed.size with h' | h'
 ·simp [h'] at h ⊢; exact h
 ·simp [Array.getElem?_eq_none h'] at h ⊢
theorem wpAnyT_first {G : World → Prop} (hG : ∀ w w', (H w → H w') → G w → G w') {i : Nat} {oi : Oper} {v : Value} (hi : ops[i]? = some oi) (hsel : ∀ (j : Nat) (o : Oper) cs b, ops[j]? = some o → o.op ≠ .select cs b)
  (hQ : ∀ c a w, Q (.panic c) (a.put oi.dst v) w → Q (.panic c) a w) (hT : (∀ w, G w) ∨ ∀ j, memb j T = true → ∃ oj, ops[j]? = some oj ∧ ∃ e ∈ oj.after, Region.binds .any e = true ∧ e.on = i) :
  ∀ (fuel : Nat) (listed : Array Bool) (a : Act) (w : World),
   (∀ j oj, ops[j]? = some oj → j ≠ i → listed.getD j true = false → (∀ e ∈ oj.after, Region.binds .any e = true → e.on ≠ i) → oi.apart ops oj = true) →
   i ∈ Region.ready .any ops listed → YieldsIf P ops G oi v a → G w →
   wpAnyT P ops Q T H fuel (listed.setIfInBounds i true) (a.put oi.dst v) w → wpAnyT P ops Q T H (fuel + 1) listed a w := by
 intro fuel
 induction fuel with
 | zero =>
  intro listed a w _ hr hy hS h
  refine ⟨fun h0 => (by rw [h0] at hr; cases hr), fun j hj => ?_⟩
  by_cases hji : j = i
  ·subst hji; exact hy.wpOp hi hS ⟨fun _ h => h, h⟩
  ·have := ready_mono hj hji
   rw [h.1] at this
   cases this
 | succ fuel ih =>
  intro listed a w hfree hr hy hS h
  refine ⟨fun h0 => (by rw [h0] at hr; cases hr), fun j hj => ?_⟩
  by_cases hji : j = i
  ·subst hji; exact hy.wpOp hi hS ⟨fun _ h => h, h⟩
  ·have h1 := h.2 j (ready_mono hj hji)
   obtain ⟨hjun, oj, hoj, hall⟩ := mem_ready.1 hj
   have hnot : ∀ e ∈ oj.after, Region.binds .any e = true → e.on ≠ i := fun e he hb heq => by
    have h2 := hall e he hb
    rw [heq, getD_flip (ready_unlisted hr)] at h2
    cases h2
   have h2 := wpOp_putIf hoj (hfree j oj hoj hji hjun hnot) (fun cs b => hsel i oi cs b hi) (fun cs b => hsel j oj cs b hoj) hQ hy h1
   have hfree' : ∀ k ok, ops[k]? = some ok → k ≠ i → (listed.setIfInBounds j true).getD k true = false →
     (∀ e ∈ ok.after, Region.binds .any e = true → e.on ≠ i) → oi.apart ops ok = true := fun k ok hk hki hun hno => by
    refine hfree k ok hk hki ?_ hno
    by_cases hjk : j = k
    ·subst hjk; exact hjun
    ·rw [getD_set_ne true hjk] at hun; exact hun
   refine wpOp_mono (fun a' w' h3 => ?_) h2
   obtain ⟨h4, h5, h6⟩ := h3
   refine ⟨h5, ih (listed.setIfInBounds j true) a' w' hfree' (ready_mono hr (Ne.symm hji)) h4 ?_ ?_⟩
   ·rcases hT with h7 | h7
    ·exact h7 w'
    ·refine hG w w' (h5 ?_) hS
     cases hm : memb j T with
     | false => rfl
     | true =>
      obtain ⟨oj', k1, e, k2, k3, k4⟩ := h7 j hm
      rw [hoj] at k1
      injection k1 with k1
      subst k1
      exact absurd k4 (hnot e k2 k3)
   ·rw [Array.setIfInBounds_comm _ _ hji]
    exact h6
theorem wpAnyT_done {listed : Array Bool} {a : Act} {w : World} (hr : Region.ready .any ops listed = []) (h : Q .normal a w) : ∀ fuel, wpAnyT P ops Q T H fuel listed a w
 | 0 => ⟨hr, h⟩
 | _ + 1 => ⟨fun _ => h, by rw [hr]; intro i hi; cases hi⟩
theorem wpOp_of {i : Nat} {o : Oper} (hi : ops[i]? = some o) {a : Act} {w : World} {X Y : Act → World → Prop} (h : opW P ops o a w X Q) (hx : ∀ a w, X a w → Y a w) : wpOp P ops Q i Y a w := by
 unfold wpOp
 simp only [hi]
 split
 ·rename_i hw
  exact .inl (Oper.wp_mono' (h.1 hw) hx)
 ·rename_i hw
  exact hx _ _ (h.2 (by simpa using hw))
theorem natsEq_eq : ∀ {a b : List Nat}, natsEq a b = true → a = b
 | [], [], _ => rfl
 | [], _ :: _, h => by simp [natsEq] at h
 | _ :: _, [], h => by simp [natsEq] at h
 | x :: xs, y :: ys, h => by
  unfold natsEq at h
  cases hx : Nat.beq x y with
  | true => rw [hx] at h; rw [Nat.eq_of_beq_eq_true hx, natsEq_eq h]
  | false => rw [hx] at h; cases h
theorem edgeOn_ok {o : Oper} {i : Nat} (h : edgeOn o i = true) : ∃ e ∈ o.after, Region.binds .any e = true ∧ e.on = i := by
 unfold edgeOn at h
 rw [Array.any_eq_true] at h
 obtain ⟨k, hk, h1⟩ := h
 rw [Bool.and_eq_true] at h1
 exact ⟨o.after[k], Array.getElem_mem hk, h1.1, by simpa using h1.2⟩
end
section
variable {P : Program} {N : Nat} {tc : Nat → Bool} {K : St → Prop} {a : Act} {w : World} {σ : Sg} {β : Bt}
variable {S : St} {o : Oper} {E : Env} {Q : Exit → Act → World → Prop} {ops : Array Oper} {held : List Nat} {hel : Bool}
theorem phTc_le (ph : Bool) (id : Nat) (h : tc id = false) : phTc tc held ph id = false := by
 unfold phTc
 cases ph with
 | true => exact h
 | false => simp only; split <;> first | rfl | exact h
theorem Fr.weak {tc' : Nat → Bool} {σ' : Sg} {β' : Bt} {w' : World} (h : Fr tc' σ β w σ' β' w') (hl : ∀ id, tc id = false → tc' id = false) : Fr tc σ β w σ' β' w' :=
 ⟨h.os, h.tape, h.output, h.size, h.sg, h.new, h.sh, h.own, h.old, fun id b h1 h2 => h.ro id b h1 (hl id h2)⟩
def Hld (held : List Nat) (hel : Bool) (σ : Sg) (β : Bt) (w w' : World) : Prop :=
 (∀ id, memb id held = true → ∀ b, β id = some b → w'.heap[b]? = w.heap[b]?) ∧ (hel = true → ∀ b x, σ b = some x → w'.heap[b]? = w.heap[b]?)
theorem takeR_ok (hT : TabOk P E.t) (hE : EqOk P E.t E.eqs) (hI : Inv E.t σ β S.box S.L w) (hn : a.tmps.size = N) (hd : a.defers = [])
  (he : ∀ i, (S.env i).ok E.t σ β (a.tmps.getD i Go.undef)) (hdN : ∀ d', o.dst = some d' → d' < N) (htk : takeOk held hel S o.op = true) (h : (opR E o S).wp tc S o.dst K) :
  ∃ u, (∀ w', (isLoad o.op = true → Hld held hel σ β w w') → (execOp a.eval o).run P w' = .ok (.value u) w') ∧ Cov E.t N tc σ β w K (a.put o.dst u) w := by
 have g : Gam E.t N tc σ β w S a w := ⟨σ, β, hI, Fr.refl _ _ _ _, hn, hd, he⟩
 have pure : (∃ u, Yld P a o u ∧ Cov E.t N tc σ β w K (a.put o.dst u) w) → ∃ u, (∀ w', (isLoad o.op = true → Hld held hel σ β w w') → (execOp a.eval o).run P w' = .ok (.value u) w') ∧ Cov E.t N tc σ β w K (a.put o.dst u) w := by
  rintro ⟨u, h1, h2⟩
  exact ⟨u, fun w' _ => h1 w', h2⟩
 cases ho : o.op with
 | move x =>
  rw [← ho]
  have h' := h
  unfold opR at h'
  simp only [ho] at h'
  exact pure ⟨_, move_ok (.inl ho) g hdN h'⟩
 | assign x =>
  rw [← ho]
  have h' := h
  unfold opR at h'
  simp only [ho] at h'
  exact pure ⟨_, move_ok (.inr ho) g hdN h'⟩
 | pick c x y => rw [← ho]; exact pure (pick_ok ho g hdN h)
 | build T ps => rw [← ho]; exact pure (build_ok hT ho g hdN h)
 | nilCheck x => rw [← ho]; exact pure (nilCheck_ok ho g hdN h)
 | binOp op T x y T' => rw [← ho]; exact pure (bin_ok hE ho g hdN h)
 | unOp op T x => rw [← ho]; exact pure (not_ok ho g hdN h)
 | convert U T x => rw [← ho]; exact pure (convert_ok hT ho g hdN h)
 | slice T x lo hi mx => rw [← ho]; exact pure (slice_ok hT ho g hdN h)
 | fieldAddr T x f => rw [← ho]; exact pure (fieldAddr_ok hT ho g hdN h)
 | field T x f => rw [← ho]; exact pure (field_ok hT ho g hdN h)
 | indexAddr T x i => rw [← ho]; exact pure (indexAddr_ok hT ho g hdN h)
 | extract x i => rw [← ho]; exact pure (extract_ok ho g hdN h)
 | call c =>
  rw [← ho]
  cases hc : c.callee with
  | builtin b =>
   cases b with
   | len => exact pure (len_ok hT ho hc g hdN h)
   | max => exact pure (max_ok ho hc g hdN h)
   | _ => simp [ho, takeOk, hc] at htk
  | _ => simp [ho, takeOk, hc] at htk
 | load T x =>
  obtain ⟨u, b, h1, h2, h3⟩ := loadB_ok hT ho hI hn hd he hdN h
  refine ⟨u, fun w' hw => h1 w' ?_, h2⟩
  obtain ⟨k1, k2⟩ := hw rfl
  rcases h3 with ⟨id, off, e1, e2⟩ | ⟨U, y, e1, e2⟩
  ·refine k1 id ?_ b e2
   simpa [ho, takeOk, e1] using htk
  ·refine k2 ?_ b y e2
   simpa [ho, takeOk, e1] using htk
 | _ => simp [ho, takeOk] at htk
theorem takeG_ok (hT : TabOk P E.t) (hE : EqOk P E.t E.eqs) (hI : Inv E.t σ β S.box S.L w) (hn : a.tmps.size = N) (hd : a.defers = [])
  (he : ∀ i, (S.env i).ok E.t σ β (a.tmps.getD i Go.undef)) (hall : ∀ o ∈ ops, ∀ d', o.dst = some d' → d' < N) (hm : o ∈ ops) (htk : takeOk held hel S o.op = true) (h : (opG E ops.toList o S).wp tc S o.dst K) :
  ∃ u, YieldsIf P ops (fun w' => isLoad o.op = true → Hld held hel σ β w w') o u a ∧ Cov E.t N tc σ β w K (a.put o.dst u) w := by
 have hdN := hall o hm
 have run : Region.wanted o (yielded ops a.tmps) = true → (opR E o S).wp tc S o.dst K → ∃ u, YieldsIf P ops (fun w' => isLoad o.op = true → Hld held hel σ β w w') o u a ∧ Cov E.t N tc σ β w K (a.put o.dst u) w := by
  intro hw h
  obtain ⟨u, h1, h2⟩ := takeR_ok hT hE hI hn hd he hdN htk h
  exact ⟨u, .inl ⟨hw, h1⟩, h2⟩
 have skip : Region.wanted o (yielded ops a.tmps) = false → (OR.det (.one (.c .undef))).wp tc S o.dst K → ∃ u, YieldsIf P ops (fun w' => isLoad o.op = true → Hld held hel σ β w w') o u a ∧ Cov E.t N tc σ β w K (a.put o.dst u) w := by
  intro hw h
  exact ⟨Go.undef, .inr ⟨hw, rfl⟩, (skip_ok (q := false) hI hn hd he hdN h).1⟩
 unfold opG at h
 split at h
 ·rename_i hg
  exact run (by simp [Region.wanted, hg]) h
 ·rename_i j want hg
  split at h
  case h_2 => exact h.elim
  rename_i g hj
  have hyl := yielded_of (a := a) (ops := ops) hj (hn ▸ dst_lt hall hj)
  have heg := he g
  split at h
  ·rename_i p e
   rw [e] at heg
   obtain ⟨b, hb, hbp⟩ := heg
   rw [hb] at hyl
   have hw : Region.wanted o (yielded ops a.tmps) = (b == want) := by simp [Region.wanted, hg, hyl]
   split at h
   ·obtain ⟨h1, h2⟩ := h
    cases b with
    | true => exact run (by rw [hw]; rfl) (h1 (hbp.1 rfl))
    | false => exact skip (by rw [hw]; rfl) (h2 fun hp => by cases hbp.2 hp)
   ·obtain ⟨h1, h2⟩ := h
    cases b with
    | true => exact skip (by rw [hw]; rfl) (h1 (hbp.1 rfl))
    | false => exact run (by rw [hw]; rfl) (h2 fun hp => by cases hbp.2 hp)
  ·rename_i e
   rw [e] at heg
   have hv : a.tmps.getD g Go.undef = Go.undef := heg
   rw [hv] at hyl
   have hyl' : yielded ops a.tmps j = none := by rw [hyl]; rfl
   exact skip (by simp [Region.wanted, hg, hyl']) h
  ·exact h.elim
end
section
variable {P : Program} {N : Nat} {tc : Nat → Bool} {K : St → Prop} {a : Act} {w : World} {σ : Sg} {β : Bt}
variable {S : St} {o : Oper} {E : Env} {Q : Exit → Act → World → Prop} {ops : Array Oper} {held : List Nat} {hel : Bool} {T : List Nat}
variable {σ₀ : Sg} {β₀ : Bt} {w₀ : World} {σs : Sg} {βs : Bt} {ws : World}
def GamP (t : Tab) (N : Nat) (tc : Nat → Bool) (held : List Nat) (hel : Bool) (σ₀ : Sg) (β₀ : Bt) (w₀ : World) (σs : Sg) (βs : Bt) (ws : World) (ph : Bool) (S : St) (a : Act) (w : World) : Prop :=
 ∃ σ β, Inv t σ β S.box S.L w ∧ Fr tc σ₀ β₀ w₀ σ β w ∧ a.tmps.size = N ∧ a.defers = [] ∧ (∀ i, (S.env i).ok t σ β (a.tmps.getD i Go.undef)) ∧
  (ph = false → Fr (phTc tc held false) σs βs ws σ β w ∧ (hel = true → w.heap.size = ws.heap.size ∧ ∀ b x, σs b = some x → w.heap[b]? = ws.heap[b]?))
theorem gamP_next {ph q : Bool} {t : Tab} {a' : Act} {w' : World} (hI : Inv t σ β S.box S.L w) (hF : Fr tc σ₀ β₀ w₀ σ β w)
  (hp : ph = false → Fr (phTc tc held false) σs βs ws σ β w ∧ (hel = true → w.heap.size = ws.heap.size ∧ ∀ b x, σs b = some x → w.heap[b]? = ws.heap[b]?))
  (h : Nxt t N (phTc tc held ph) σ β w K q a' w') (hq : ph = false → hel = true → q = true) : ∃ S', K S' ∧ GamP t N tc held hel σ₀ β₀ w₀ σs βs ws ph S' a' w' := by
 obtain ⟨⟨S', hk, σ', β', k1, k2, k3, k4, k5⟩, hqq⟩ := h
 refine ⟨S', hk, σ', β', k1, hF.trans hI (k2.weak (phTc_le ph)), k3, k4, k5, fun h0 => ?_⟩
 obtain ⟨g1, g2⟩ := hp h0
 subst h0
 refine ⟨g1.trans hI k2, fun h1 => ?_⟩
 obtain ⟨g3, g4⟩ := g2 h1
 obtain ⟨g5, g6⟩ := hqq (hq rfl h1)
 exact ⟨g5.trans g3, fun b x hb => (g6 b x (g1.sg b x hb)).trans (g4 b x hb)⟩
theorem gamP_H {t : Tab} (h : GamP t N tc held hel σ₀ β₀ w₀ σs βs ws false S a w) : Hld held hel σs βs ws w := by
 obtain ⟨σ, β, hI, hF, hn, hd, he, hp⟩ := h
 obtain ⟨g1, g2⟩ := hp rfl
 refine ⟨fun id hid b hb => g1.ro id b hb ?_, fun h1 => (g2 h1).2⟩
 simp only [phTc, hid]
theorem pchk_take {n i : Nat} {ph : Bool} {l : Array Bool} {p : Pl} (h : pchk ops T (.take i p) n ph l = true) :
  ∃ m o, n = m + 1 ∧ ops[i]? = some o ∧ i ∈ Region.ready .any ops l ∧ Region.free .any ops l i = true ∧ memb i T = false ∧
   (isLoad o.op = true → ph = false ∧ ∀ j, memb j T = true → ∃ oj, ops[j]? = some oj ∧ ∃ e ∈ oj.after, Region.binds .any e = true ∧ e.on = i) ∧ pchk ops T p m ph (l.setIfInBounds i true) = true := by
 unfold pchk at h
 split at h
 case h_2 => cases h
 rename_i m o ho
 rw [Bool.and_eq_true, Bool.and_eq_true, Bool.and_eq_true, Bool.and_eq_true] at h
 obtain ⟨h1, h2, h3, h4, h5⟩ := h
 refine ⟨m, o, rfl, ho, (memb_iff _ _).1 h1, h2, by simpa using h3, fun hl => ?_, h5⟩
 rw [hl] at h4
 simp only [Bool.not_true, Bool.false_or, Bool.and_eq_true] at h4
 refine ⟨by simpa using h4.1, fun j hj => ?_⟩
 have := List.all_eq_true.1 h4.2 j ((memb_iff _ _).1 hj)
 split at this
 ·rename_i oj hoj
  exact ⟨oj, hoj, edgeOn_ok this⟩
 ·cases this
theorem dvc_ok (hT : TabOk P E.t) (hE : EqOk P E.t E.eqs) (hS : SatAll P E) (hall : ∀ o ∈ ops, ∀ d', o.dst = some d' → d' < N) (hsel : ∀ (j : Nat) (o : Oper) cs b, ops[j]? = some o → o.op ≠ .select cs b)
  (hQp : ∀ c a w, ¬ Q (.panic c) a w) (hheld : ∀ id, memb id held = true → ∃ b, βs id = some b)
  (hQ : ∀ S a w, K S → Gam E.t N tc σ₀ β₀ w₀ S a w → Q .normal a w) :
  ∀ (p : Pl) (ph : Bool) (n : Nat) (l : Array Bool) (S : St) (a : Act) (w : World), pchk ops T p n ph l = true → dvc E tc held hel ops.toList ph p S K →
   GamP E.t N tc held hel σ₀ β₀ w₀ σs βs ws ph S a w → wpAnyT P ops Q T (Hld held hel σs βs ws) n l a w := by
 intro p
 have stepX : ∀ (p : Pl), (∀ (ph : Bool) (n : Nat) (l : Array Bool) (S : St) (a : Act) (w : World), pchk ops T p n ph l = true → dvc E tc held hel ops.toList ph p S K →
   GamP E.t N tc held hel σ₀ β₀ w₀ σs βs ws ph S a w → wpAnyT P ops Q T (Hld held hel σs βs ws) n l a w) →
   ∀ (i : Nat) (ph : Bool) (n : Nat) (l : Array Bool) (S : St) (a : Act) (w : World), (ph == memb i T) = true → pchk ops T p n ph (l.setIfInBounds i true) = true →
   (match nth ops.toList i with
    | some o => match stepOk hel ph S o.op with
     | true => (opG E ops.toList o S).wp (phTc tc held ph) S o.dst fun S => dvc E tc held hel ops.toList ph p S K
     | false => False
    | none => False) →
   GamP E.t N tc held hel σ₀ β₀ w₀ σs βs ws ph S a w →
   wpOp P ops Q i (fun a' w' => (memb i T = false → Hld held hel σs βs ws w → Hld held hel σs βs ws w') ∧ wpAnyT P ops Q T (Hld held hel σs βs ws) n (l.setIfInBounds i true) a' w') a w := by
  intro p ih i ph n l S a w hph hchk h g
  split at h
  case h_2 => exact h.elim
  rename_i o ho
  rw [nth_eq, Array.getElem?_toList] at ho
  split at h
  case h_2 => exact h.elim
  rename_i hst
  obtain ⟨σ, β, hI, hF, hn, hd, he, hp⟩ := g
  refine wpOp_of ho (opG_ok (Q := Q) hT hE hS hI hn hd he hall (Array.mem_of_getElem? ho) h) fun a' w' hx => ?_
  obtain ⟨S', k1, k2⟩ := gamP_next hI hF hp hx (fun h1 h2 => by subst h1; subst h2; exact hst)
  refine ⟨fun hm _ => ?_, ih ph n _ S' a' w' hchk k1 k2⟩
  rw [hm] at hph
  have : ph = false := by simpa using hph
  subst this
  exact gamP_H k2
 induction p with
 | done =>
  intro ph n l S a w hc h g
  have hr : Region.ready .any ops l = [] := natsEq_eq hc
  obtain ⟨σ, β, hI, hF, hn, hd, he, hp⟩ := g
  have h' : K S := by cases ph <;> exact h
  exact wpAnyT_done hr (hQ S a w h' ⟨σ, β, hI, hF, hn, hd, he⟩) n
 | take i p ih =>
  intro ph n l S a w hc h g
  obtain ⟨m, o, rfl, ho, hr, hf, hm, hl, hc'⟩ := pchk_take hc
  unfold dvc at h
  split at h
  case h_2 => exact h.elim
  rename_i o' ho'
  rw [nth_eq, Array.getElem?_toList, ho] at ho'
  injection ho' with ho'
  subst ho'
  split at h
  case h_2 => exact h.elim
  rename_i htk
  have gg := g
  obtain ⟨σ, β, hI, hF, hn, hd, he, hp⟩ := g
  obtain ⟨u, hy, hcov⟩ := takeG_ok hT hE hI hn hd he hall (Array.mem_of_getElem? ho) htk h
  obtain ⟨S', k1, k2⟩ := gamP_next (q := true) hI hF hp ⟨hcov, fun _ => ⟨rfl, fun _ _ _ => rfl⟩⟩ (fun _ _ => rfl)
  have hy' : YieldsIf P ops (fun w' => isLoad o.op = true → Hld held hel σs βs ws w') o u a := by
   rcases hy with ⟨h1, h2⟩ | h1
   ·refine .inl ⟨h1, fun w' hw' => h2 w' fun hld => ?_⟩
    obtain ⟨g1, g2⟩ := hw' hld
    obtain ⟨hph, _⟩ := hl hld
    obtain ⟨f1, f2⟩ := hp hph
    constructor
    ·intro id hid b hb
     obtain ⟨b0, hb0⟩ := hheld id hid
     have hb1 := f1.sh id b0 hb0
     rw [hb] at hb1
     injection hb1 with hb1
     subst hb1
     rw [g1 id hid b hb0]
     refine (f1.ro id b hb0 ?_).symm
     simp only [phTc, hid]
    ·intro hh b x hb
     obtain ⟨f3, f4⟩ := f2 hh
     have hs : σs b = some x := by
      rcases f1.new b x hb with h3 | h3
      ·exact h3
      ·have := hI.lt b x hb
       omega
     rw [g2 hh b x hs, f4 b x hs]
   ·exact .inr h1
  refine wpAnyT_first (G := fun w' => isLoad o.op = true → Hld held hel σs βs ws w') (fun w w' h1 h2 h3 => h1 (h2 h3)) ho hsel (fun c a w hq => absurd hq (hQp _ _ _)) ?_ m l a w (Region.free_spec ho hf) hr hy' ?_ (ih ph m _ S' _ w hc' k1 k2)
  ·cases hld : isLoad o.op with
   | false => exact .inl fun w h => by cases h
   | true => exact .inr (hl hld).2
  ·intro hld
   obtain ⟨hph, _⟩ := hl hld
   subst hph
   exact gamP_H gg
 | step i p ih =>
  intro ph n l S a w hc h g
  cases n with
  | zero => simp [pchk] at hc
  | succ m =>
   unfold pchk at hc
   rw [Bool.and_eq_true, Bool.and_eq_true] at hc
   obtain ⟨c1, c2, c3⟩ := hc
   have hr := natsEq_eq c1
   refine ⟨fun h0 => (by rw [h0] at hr; cases hr), fun k hk => ?_⟩
   rw [hr] at hk
   have hk : k = i := by simpa using hk
   subst hk
   exact stepX p ih k ph m l S a w c2 c3 h g
 | fork i p j q ih1 ih2 =>
  intro ph n l S a w hc h g
  cases n with
  | zero => simp [pchk] at hc
  | succ m =>
   unfold pchk at hc
   rw [Bool.and_eq_true, Bool.and_eq_true, Bool.and_eq_true, Bool.and_eq_true] at hc
   obtain ⟨c1, c2, c3, c4, c5⟩ := hc
   have hr := natsEq_eq c1
   obtain ⟨h1, h2⟩ := h
   refine ⟨fun h0 => (by rw [h0] at hr; cases hr), fun k hk => ?_⟩
   rw [hr] at hk
   have hk : k = i ∨ k = j := by simpa using hk
   rcases hk with rfl | rfl
   ·exact stepX p ih1 k ph m l S a w c2 c4 h1 g
   ·exact stepX q ih2 k ph m l S a w c3 c5 h2 g
 | brk p ih =>
  intro ph n l S a w hc h g
  obtain ⟨σ, β, hI, hF, hn, hd, he, hp⟩ := g
  have h' : dvc E tc held hel ops.toList true p S K := by cases ph <;> exact h
  exact ih true n l S a w hc h' ⟨σ, β, hI, hF, hn, hd, he, fun h => by cases h⟩
end
section
variable {t : Tab} {σ : Sg} {β : Bt} {bx : Bx} {L : Nat} {w : World} {ks : List Nat}
theorem keepB_of {id b : Nat} (h : memb id ks = true) (hb : β id = some b) : keepB ks β id = some b := by
 unfold keepB
 rw [h]
 exact hb
theorem wkC_ok {x y : CV} {v : Value} (h : x.ok t σ β v) (hk : wkC x y) (hi : cIn ks y = true) : y.ok t σ (keepB ks β) v := by
 cases y with
 | any => trivial
 | undef => cases x <;> first | exact h | exact hk.elim
 | int k m =>
  cases x with
  | int k' n =>
   simp only [wkC] at hk
   split at hk
   ·rename_i e; rw [ikEq_eq e, ← hk]; exact h
   ·exact hk.elim
  | _ => exact hk.elim
 | prop q =>
  cases x with
  | prop p =>
   obtain ⟨b, h1, h2⟩ := h
   exact ⟨b, h1, h2.trans hk⟩
  | _ => exact hk.elim
 | str => cases x <;> first | exact h | exact hk.elim
 | tint k =>
  cases x with
  | int k' n =>
   simp only [wkC] at hk
   split at hk
   ·rename_i e; rw [ikEq_eq e]; exact ⟨n, h⟩
   ·exact hk.elim
  | tint k' =>
   simp only [wkC] at hk
   split at hk
   ·rename_i e; rw [ikEq_eq e]; exact h
   ·exact hk.elim
  | _ => exact hk.elim
 | tbool =>
  cases x with
  | prop p =>
   obtain ⟨b, h1, h2⟩ := h
   exact ⟨b, h1⟩
  | tbool => exact h
  | _ => exact hk.elim
 | sl E B =>
  cases x with
  | slice E' n =>
   simp only [wkC] at hk
   split at hk
   ·rename_i e
    obtain ⟨A, c, h1, h2⟩ := h
    rw [Nat.eq_of_beq_eq_true e]
    exact ⟨A, n, c, h1, hk, h2⟩
   ·exact hk.elim
  | sl E' B' =>
   simp only [wkC] at hk
   split at hk
   ·rename_i e
    obtain ⟨A, n, c, h1, h3, h2⟩ := h
    rw [Nat.eq_of_beq_eq_true e]
    exact ⟨A, n, c, h1, Nat.le_trans h3 hk, h2⟩
   ·exact hk.elim
  | nils => exact ⟨none, 0, 0, h, Nat.zero_le _, Nat.le_refl _, Nat.zero_le _, fun _ => rfl, fun a h => by cases h⟩
  | _ => exact hk.elim
 | slice E m =>
  cases x with
  | slice E' n =>
   simp only [wkC] at hk
   split at hk
   ·rename_i e
    rw [Nat.eq_of_beq_eq_true e, ← hk]
    exact h
   ·exact hk.elim
  | nils =>
   have hk : 0 = m := hk
   subst hk
   exact ⟨none, 0, h, Nat.le_refl _, Nat.zero_le _, fun _ => rfl, fun a h => by cases h⟩
  | _ => exact hk.elim
 | nils => cases x <;> first | exact h | exact hk.elim
 | nilp => cases x <;> first | exact h | exact hk.elim
 | loc id off =>
  cases x with
  | loc id' off' =>
   simp only [wkC] at hk
   split at hk
   ·rename_i e
    rw [Bool.and_eq_true] at e
    obtain ⟨b, h1, h2⟩ := h
    rw [← Nat.eq_of_beq_eq_true e.1] at h1
    rw [← Nat.eq_of_beq_eq_true e.2] at h2
    exact ⟨b, keepB_of hi h1, h2⟩
   ·exact hk.elim
  | _ => exact hk.elim
 | el T =>
  cases x with
  | el T' =>
   simp only [wkC] at hk
   split at hk
   ·rename_i e; rw [Nat.eq_of_beq_eq_true e]; exact h
   ·exact hk.elim
  | _ => exact hk.elim
theorem wkL_ok {xs : List CV} {vs : List Value} (h : Cells t σ β xs vs) : ∀ {ys : List CV}, wkL xs ys → csIn ks ys = true → Cells t σ (keepB ks β) ys vs := by
 induction h with
 | nil =>
  intro ys hk hi
  cases ys with
  | nil => exact .nil
  | cons y ys => exact hk.elim
 | @cons x v xs vs h _ ih =>
  intro ys hk hi
  cases ys with
  | nil => exact hk.elim
  | cons y ys =>
   unfold csIn at hi
   cases hy : cIn ks y with
   | false => rw [hy] at hi; cases hi
   | true =>
    rw [hy] at hi
    exact .cons (wkC_ok h hk.1 hy) (ih hk.2 hi)
theorem wkV_ok {x y : AV} {v : Value} (h : x.ok t σ β v) (hk : wkV x y) (hi : aIn ks y = true) : y.ok t σ (keepB ks β) v := by
 rcases y with y | ys
 ·rcases y with y | ys
  ·rcases x with x | xs
   ·rcases x with x | xs
    ·refine wkC_ok (x := x) h ?_ hi
     cases y <;> exact hk
    ·cases y <;> first | trivial | exact hk.elim
   ·cases y <;> first | trivial | exact hk.elim
  ·rcases x with x | xs
   ·rcases x with x | xs
    ·exact hk.elim
    ·obtain ⟨vs, h1, h2⟩ := h
     exact ⟨vs, h1, wkL_ok h2 hk hi⟩
   ·exact hk.elim
 ·exact hk.elim
theorem wkE_mem {e : Nat → AV} : ∀ {l : List (Nat × AV)}, wkE e l → ∀ i v, (i, v) ∈ l → wkV (e i) v
 | [], _, _, _, h => by cases h
 | (j, u) :: l, hk, i, v, h => by
  rcases List.mem_cons.1 h with h | h
  ·injection h with h1 h2
   subst h1; subst h2
   exact hk.1
  ·exact wkE_mem hk.2 i v h
theorem wkB_mem {e : Bx} : ∀ {l : List (Nat × List CV)}, wkB e l → ∀ i cs, (i, cs) ∈ l → ∃ xs, e i = some xs ∧ wkL xs cs
 | [], _, _, _, h => by cases h
 | (j, u) :: l, hk, i, cs, h => by
  rcases List.mem_cons.1 h with h | h
  ·injection h with h1 h2
   subst h1; subst h2
   have := hk.1
   split at this
   ·rename_i xs hxs; exact ⟨xs, hxs, this.h⟩
   ·exact this.elim
  ·exact wkB_mem hk.2 i cs h
theorem wkK_mem {b : List (Nat × List CV)} {e : Bx} : ∀ {l : List Nat}, wkK b e l → ∀ i ∈ l, (∃ cs, assoc b i = some cs) ∨ e i = none
 | [], _, _, h => by cases h
 | j :: l, hk, i, h => by
  unfold wkK at hk
  rcases List.mem_cons.1 h with rfl | h
  ·cases ha : assoc b i with
   | some cs => exact .inl ⟨cs, rfl⟩
   | none =>
    rw [ha] at hk
    simp only at hk
    cases he : e i with
    | none => exact .inr rfl
    | some x => rw [he] at hk; exact hk.elim
  ·refine wkK_mem ?_ i h
   split at hk
   ·exact hk
   ·split at hk
    ·exact hk
    ·exact hk.elim
theorem envIn_mem : ∀ {l : List (Nat × AV)}, envIn ks l = true → ∀ i v, (i, v) ∈ l → aIn ks v = true
 | [], _, _, _, h => by cases h
 | (j, u) :: l, hk, i, v, h => by
  unfold envIn at hk
  split at hk
  ·rename_i hu
   rcases List.mem_cons.1 h with h | h
   ·injection h with h1 h2
    subst h2
    exact hu
   ·exact envIn_mem hk i v h
  ·cases hk
theorem celIn_mem : ∀ {l : List (Nat × List CV)}, celIn ks l = true → ∀ i cs, (i, cs) ∈ l → csIn ks cs = true
 | [], _, _, _, h => by cases h
 | (j, u) :: l, hk, i, cs, h => by
  unfold celIn at hk
  split at hk
  ·rename_i hu
   rcases List.mem_cons.1 h with h | h
   ·injection h with h1 h2
    subst h2
    exact hu
   ·exact celIn_mem hk i cs h
  ·cases hk
theorem keysOf_iff : ∀ {l : List (Nat × List CV)} {i : Nat}, memb i (keysOf l) = true ↔ ∃ cs, assoc l i = some cs
 | [], i => by simp [keysOf, memb, assoc]
 | (j, u) :: l, i => by
  unfold keysOf memb assoc
  cases h : Nat.beq i j with
  | true => simp
  | false => simp only; exact keysOf_iff
theorem wkS_ok {N : Nat} {tc : Nat → Bool} {σ₀ : Sg} {β₀ : Bt} {w₀ : World} {base : List Nat} {S : St} {l : LSt} {a : Act} (hb : ∀ id b, β₀ id = some b → id ∈ base) (h : wkS base S l) (g : Gam t N tc σ₀ β₀ w₀ S a w) : Gam t N tc σ₀ β₀ w₀ l.st a w := by
 obtain ⟨h1, h2, h3, h4, h5⟩ := h
 obtain ⟨σ, β, hI, hF, hn, hd, he⟩ := g
 split at h5
 case h_2 => exact h5.elim
 rename_i h5'
 rw [Bool.and_eq_true] at h5'
 obtain ⟨k1, k2⟩ := h5'
 refine ⟨σ, keepB (keysOf l.box) β, ?_, ?_, hn, hd, fun i => ?_⟩
 ·have hL : l.st.L = S.L := h4.symm
  rw [hL]
  refine ⟨hI.hp, ?_, ?_, ?_, ?_, hI.lt, hI.lim⟩
  ·intro id cs hc
   have hc : assoc l.box id = some cs := hc
   obtain ⟨xs, q1, q2⟩ := wkB_mem h2 id cs (assoc_mem hc)
   obtain ⟨b, vs, T, g1, g2, g3, g4⟩ := hI.box id xs q1
   exact ⟨b, vs, T, keepB_of (keysOf_iff.2 ⟨cs, hc⟩) g1, g2, wkL_ok g3 q2 (celIn_mem k2 id cs (assoc_mem hc)), g4⟩
  ·intro id id' b e1 e2
   exact hI.inj _ _ _ (keepB_some e1).2 (keepB_some e2).2
  ·intro id b e1
   exact hI.apart _ _ (keepB_some e1).2
  ·intro id b e1
   exact keysOf_iff.1 (keepB_some e1).1
 ·refine ⟨hF.os, hF.tape, hF.output, hF.size, hF.sg, hF.new, fun id b e1 => ?_, fun id b e1 => hF.own id b (keepB_some e1).2, hF.old, hF.ro⟩
  have e2 := hF.sh id b e1
  refine keepB_of (keysOf_iff.2 ?_) e2
  rcases wkK_mem h3 id (hb id b e1) with h6 | h6
  ·exact h6
  ·rw [hI.noBox h6] at e2; cases e2
 ·show (match assoc l.env i with | some v => v | none => .one (.c .any)).ok t σ _ _
  cases ha : assoc l.env i with
  | none => trivial
  | some v => exact wkV_ok (he i) (wkE_mem h1 i v (assoc_mem ha)) (envIn_mem k1 i v (assoc_mem ha))
end
def opOk (N : Nat) (o : Oper) : Bool :=
 (match o.dst with
 | some d => Nat.blt d N
 | none => true) && match o.op with
 | .select _ _ => false
 | _ => true
def codeOk (N : Nat) : Code → Bool
 | .seq x y => codeOk N x && codeOk N y
 | .cond _ x y => codeOk N x && codeOk N y
 | .block _ c => codeOk N c
 | .loop c => codeOk N c
 | .region _ ops _ => ops.toList.all (opOk N)
 | _ => true
def qOf (t : Tab) (N : Nat) (tc : Nat → Bool) (σ₀ : Sg) (β₀ : Bt) (w₀ : World) (Q : Post) : Exit → Act → World → Prop
 | .normal, a, w => Cov t N tc σ₀ β₀ w₀ Q.n a w
 | .exit id, a, w => Cov t N tc σ₀ β₀ w₀ (Q.ex id) a w
 | .ret, a, w => Cov t N tc σ₀ β₀ w₀ Q.ret a w
 | _, _, _ => False
section
variable {P : Program} {N : Nat} {C : Cfg} {σ₀ : Sg} {β₀ : Bt} {w₀ : World}
theorem opsOk {ops : Array Oper} (h : ops.toList.all (opOk N) = true) : (∀ o ∈ ops, ∀ d', o.dst = some d' → d' < N) ∧ ∀ (j : Nat) (o : Oper) cs b, ops[j]? = some o → o.op ≠ .select cs b := by
 have key : ∀ o ∈ ops, opOk N o = true := fun o ho => List.all_eq_true.1 h o (by simpa using ho)
 constructor
 ·intro o ho d' hd
  have := key o ho
  unfold opOk at this
  rw [hd, Bool.and_eq_true] at this
  have h1 := this.1
  simp only [Nat.blt_eq] at h1
  exact h1
 ·intro j o cs b hj he
  have := key o (Array.mem_of_getElem? hj)
  unfold opOk at this
  rw [he, Bool.and_eq_true] at this
  cases this.2
theorem vc_ok (hm : P.follows .mixedOrders = true) (hT : TabOk P C.E.t) (hE : EqOk P C.E.t C.E.eqs) (hS : SatAll P C.E) (hb : ∀ id b, β₀ id = some b → id ∈ C.base) :
  ∀ (c : Code) (S : St) (Q : Post) (a : Act) (w : World), codeOk N c = true → vc C c S Q → Gam C.E.t N C.tc σ₀ β₀ w₀ S a w → c.wp P (qOf C.E.t N C.tc σ₀ β₀ w₀ Q) a w
 | .skip, S, Q, a, w, _, h, g => wp_skip ⟨S, h, g⟩
 | .label l, S, Q, a, w, _, h, g => wp_label ⟨S, h, g⟩
 | .exit id, S, Q, a, w, _, h, g => wp_exit ⟨S, h, g⟩
 | .ret, S, Q, a, w, _, h, g => wp_ret ⟨S, h, g⟩
 | .seq x y, S, Q, a, w, hc, h, g => by
  unfold codeOk at hc
  rw [Bool.and_eq_true] at hc
  refine wp_seq (wp_mono (vc_ok hm hT hE hS hb x S _ a w hc.1 h g) fun e a' w' hq => ?_)
  cases e with
  | normal =>
   obtain ⟨S', k1, k2⟩ := hq
   exact vc_ok hm hT hE hS hb y S' Q a' w' hc.2 k1 k2
  | exit id => exact hq
  | ret => exact hq
  | _ => exact hq.elim
 | .cond c x y, S, Q, a, w, hc, h, g => by
  unfold codeOk at hc
  rw [Bool.and_eq_true] at hc
  unfold vc at h
  split at h
  case h_2 => exact h.elim
  rename_i p e
  have g' := g
  obtain ⟨σ, β, hI, hF, hn, hd, he⟩ := g'
  obtain ⟨b, hv, hbp⟩ := prop_inv (look_ok he c) e
  obtain ⟨h1, h2⟩ := h
  cases b with
  | true => exact wp_cond_true hv (vc_ok hm hT hE hS hb x S Q a w hc.1 (h1 (hbp.1 rfl)) g)
  | false => exact wp_cond_false hv (vc_ok hm hT hE hS hb y S Q a w hc.2 (h2 fun hp => by cases hbp.2 hp) g)
 | .block id c, S, Q, a, w, hc, h, g => by
  unfold codeOk at hc
  refine wp_block (wp_mono (vc_ok hm hT hE hS hb c S _ a w hc h g) fun e a' w' hq => ?_)
  cases e with
  | normal => exact hq
  | exit id' =>
   obtain ⟨S', k1, k2⟩ := hq
   simp only at k1
   simp only [Exit.inBlock]
   split at k1
   ·rename_i e
    rw [if_pos (Nat.eq_of_beq_eq_true e)]
    exact ⟨S', k1, k2⟩
   ·rename_i e
    have hne : ¬ id' = id := fun h => by subst h; simp at e
    rw [if_neg hne]
    exact ⟨S', k1, k2⟩
  | ret => exact hq
  | _ => exact hq.elim
 | .loop c, S, Q, a, w, hc, h, g => by
  unfold codeOk at hc
  unfold vc at h
  obtain ⟨α, J, I, μ, ⟨x, h1, h2⟩, h3⟩ := h
  refine wp_loop_ghost (fun n a w => ∃ x, I x ∧ Gam C.E.t N C.tc σ₀ β₀ w₀ (J x).st a w ∧ μ x = n) (μ x) ⟨x, h2, wkS_ok hb h1 g, rfl⟩ ?_
  rintro n a w ⟨x, k1, k2, k3⟩
  refine wp_mono (vc_ok hm hT hE hS hb c _ _ a w hc (show vc C c (J x).st _ from h3 x k1) k2) fun e a' w' hq => ?_
  cases e with
  | normal =>
   obtain ⟨S', ⟨x', q1, q2, q3⟩, q4⟩ := hq
   exact ⟨μ x', by omega, x', q2, wkS_ok hb q1 q4, rfl⟩
  | exit id => exact hq
  | ret => exact hq
  | _ => exact hq.elim
 | .region id ops draw, S, Q, a, w, hc, h, g => by
  unfold codeOk at hc
  obtain ⟨hall, hsel⟩ := opsOk hc
  unfold vc at h
  split at h
  ·exact wp_region_list (rvc_ok hT hE hS hall (K := Q.n) (fun a w hq => hq) ops.toList (fun o ho => by simpa using ho) S a w h g)
  ·split at h
   case h_2 => exact h.elim
   rename_i hh
   obtain ⟨h1, h2⟩ := h
   obtain ⟨σ, β, hI, hF, hn, hd, he⟩ := g
   have hI' : Inv C.E.t σ β S.box S.L w.drew := hI.drew
   have hF' : Fr C.tc σ₀ β₀ w₀ σ β w.drew := Fr.next hI hF rfl rfl rfl (Nat.le_refl _) (Le.refl _) (fun _ _ h => .inl h) (LeB.refl _) (fun _ _ h => .inl h) fun _ _ _ _ => rfl
   refine wp_region_any hm (wpAny_of_T (T := (C.plan id).T) (H := Hld (C.plan id).held (C.plan id).hel σ β w.drew) _ _ _ _ ?_)
   exact dvc_ok (K := Q.n) (σ₀ := σ₀) (β₀ := β₀) (w₀ := w₀) hT hE hS hall hsel (fun c a w h => h) (heldIn_ok hI hh) (fun S a w k1 k2 => ⟨S, k1, k2⟩) _ false _ _ S a w.drew h1 h2
    ⟨σ, β, hI', hF', hn, hd, he, fun _ => ⟨Fr.refl _ _ _ _, fun _ => ⟨rfl, fun _ _ _ => rfl⟩⟩⟩
 | .goto l, S, Q, a, w, _, h, g => h.elim
 | .scope c, S, Q, a, w, _, h, g => h.elim
 | .rangeFunc _ _ _ _, S, Q, a, w, _, h, g => h.elim
 | .refuse _, S, Q, a, w, _, h, g => h.elim
end
end Tv
end Go.Proofs.YtpabdmcbahmjnaaGreat
