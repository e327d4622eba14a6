/- Part of a proof: W13 W14 W15 W16. -/
import Derived.Test.YtpabdmcbahmjnaaGreatMWD
import Derived.Test.YtpabdmcbahmjnaaGreatMA3
import Derived.Deep.DeepAppendRoom
namespace Go.Proofs.YtpabdmcbahmjnaaGreat
namespace Tv
open Go Go.RowKit Go.MapKept
set_option linter.unusedSimpArgs false
set_option linter.unusedVariables false
structure MD where
 bM : Nat
 ba : Nat
 bx : Nat
 bb : Nat
 t : TN
 msk : Int
 AT : Option Addr
 nT : Nat
 cT : Nat
 AP : Option Addr
 nP : Nat
 cP : Nat
 AE : Option Addr
 cE : Nat
 AR : Option Addr
 nR : Nat
 cR : Nat
 xs : List Value
 ats : List Int
 exs : List (Option Nat)
 bys : List Int
 evs : List EvD
 pk : Int
 cur : Int
 most : Int
def exP : Option Nat → Value
 | none => .pointer none
 | some b => .pointer (some ⟨b, 0, none⟩)
def MD.cells (d : MD) : Array Value := #[.int .u64 d.msk, .slice d.AT d.nT d.cT, .slice d.AP d.nP d.cP, .pointer (some ⟨d.t.bt, 0, none⟩), .slice (some ⟨d.ba, 0, none⟩) d.nT d.nT, .slice (some ⟨d.bx, 0, none⟩) d.nT d.nT, .slice d.AE d.evs.length d.cE, .slice d.AR d.nR d.cR, .int .i64 d.pk, .slice (some ⟨d.bb, 0, none⟩) d.nT d.nT, .int .i64 d.cur, .int .i64 d.most]
structure MF (B : Nat) (w0 : World) (σ : Sg) (κ : Nat → Nat) (d : MD) (w : World) : Prop where
 below : Below B w0 w
 size : B ≤ w.heap.size
 sg : ∀ b x, σ b = some x → B ≤ b
 M : w.heap[d.bM]? = some (.cells d.cells 38 (0, 0))
 A : w.heap[d.ba]? = some (.cells (d.ats.map (Value.int .i64)).toArray 3 (0, 0))
 X : w.heap[d.bx]? = some (.cells (d.exs.map exP).toArray 90 (0, 0))
 Y : w.heap[d.bb]? = some (.cells (d.bys.map (Value.int .i64)).toArray 3 (0, 0))
 ev : w.ownsRow B 72 11 (.slice d.AE d.evs.length d.cE) d.evs.length (d.evs.flatMap EvD.cells)
 tr : w.ownsRow B 97 7 (.slice d.AR d.nR d.cR) d.nR d.xs
 la : d.ats.length = d.nT
 lx : d.exs.length = d.nT
 ly : d.bys.length = d.nT
 nM : σ d.bM = none
 nA : σ d.ba = none
 nX : σ d.bx = none
 nY : σ d.bb = none
 nE : ∀ b, (Value.slice d.AE d.evs.length d.cE).ownBlock = some b → σ b = none ∧ κ b = 8
 nR : ∀ b, (Value.slice d.AR d.nR d.cR).ownBlock = some b → σ b = none ∧ κ b = 9
 kM : κ d.bM = 1
 kA : κ d.ba = 2
 kX : κ d.bx = 3
 kY : κ d.bb = 4
 gM : B ≤ d.bM
 gA : B ≤ d.ba
 gX : B ≤ d.bx
 gY : B ≤ d.bb
def fixK (n : Nat) : Prop := n = 1 ∨ n = 2 ∨ n = 3 ∨ n = 4 ∨ n = 8 ∨ n = 9
theorem rowW_keep {w w' : World} {B size n : Nat} {e : TypeId} {v : Value} {xs : List Value} (h : w.ownsRow B e size v n xs) (hk : ∀ g, v.ownBlock = some g → w'.heap[g]? = w.heap[g]?) : w'.ownsRow B e size v n xs := row_keep h hk
theorem rowW_lt {w : World} {B size n : Nat} {e : TypeId} {v : Value} {xs : List Value} (h : w.ownsRow B e size v n xs) {g : Nat} (hg : v.ownBlock = some g) : B ≤ g ∧ g < w.heap.size := by
 obtain ⟨h1, cur, h2⟩ := row_kind h hg
 exact ⟨h1, (Array.getElem?_eq_some_iff.1 h2).1⟩
theorem MF.keep {B : Nat} {w0 w w' : World} {σ σ' : Sg} {κ : Nat → Nat} {d : MD} {S : Nat → Prop} (h : MF B w0 σ κ d w) (F : FM S σ w σ' w') (hS : ∀ b, S b → B ≤ b ∧ ¬ fixK (κ b)) : MF B w0 σ' κ d w' := by
 have old : ∀ b o, w.heap[b]? = some o → σ b = none → fixK (κ b) → w'.heap[b]? = some o := fun b o h1 h2 h3 =>
  (F.old b (Array.getElem?_eq_some_iff.1 h1).1 h2 fun hs => (hS b hs).2 h3).trans h1
 have non : ∀ b o, w.heap[b]? = some o → σ b = none → σ' b = none := fun b o h1 h2 => F.non (Array.getElem?_eq_some_iff.1 h1).1 h2
 refine ⟨⟨F.os.trans h.below.os, F.tape.trans h.below.tape, F.output.trans h.below.output, Nat.le_trans h.below.size F.size, fun b hb => ?_⟩, Nat.le_trans h.size F.size, fun b x hb => ?_, old _ _ h.M h.nM (.inl h.kM), old _ _ h.A h.nA (.inr (.inl h.kA)), old _ _ h.X h.nX (.inr (.inr (.inl h.kX))), old _ _ h.Y h.nY (.inr (.inr (.inr (.inl h.kY)))), ?_, ?_, h.la, h.lx, h.ly, non _ _ h.M h.nM, non _ _ h.A h.nA, non _ _ h.X h.nX, non _ _ h.Y h.nY, fun b hb => ?_, fun b hb => ?_, h.kM, h.kA, h.kX, h.kY, h.gM, h.gA, h.gX, h.gY⟩
 ·refine (F.old b (Nat.lt_of_lt_of_le hb h.size) ?_ fun hs => ?_).trans (h.below.block b hb)
  ·cases hx : σ b with
   | none => rfl
   | some x => have := h.sg b x hx; omega
  ·have := (hS b hs).1; omega
 ·rcases F.new b x hb with h1 | h1
  ·exact h.sg b x h1
  ·have := h.size; omega
 ·exact rowW_keep h.ev fun g hg => F.old g (rowW_lt h.ev hg).2 (h.nE g hg).1 fun hs => (hS g hs).2 (.inr (.inr (.inr (.inr (.inl (h.nE g hg).2)))))
 ·exact rowW_keep h.tr fun g hg => F.old g (rowW_lt h.tr hg).2 (h.nR g hg).1 fun hs => (hS g hs).2 (.inr (.inr (.inr (.inr (.inr (h.nR g hg).2)))))
 ·exact ⟨F.non (rowW_lt h.ev hb).2 (h.nE b hb).1, (h.nE b hb).2⟩
 ·exact ⟨F.non (rowW_lt h.tr hb).2 (h.nR b hb).1, (h.nR b hb).2⟩
theorem EX.core {bm be : Nat} {σ : Sg} {L g : Nat} {w : World} (h : EX bm be σ L g w) : Core σ L w := by
 obtain ⟨x, h1, _, h3⟩ := h
 subst h1
 exact h3.core
theorem EX.mem {bm be : Nat} {σ : Sg} {L g : Nat} {w : World} (h : EX bm be σ L g w) : Bl σ nB w bm (memB L) := by
 obtain ⟨x, h1, _, h3⟩ := h
 subst h1
 exact h3.mem
theorem EX.lt {bm be : Nat} {σ : Sg} {L g : Nat} {w : World} (h : EX bm be σ L g w) : be < w.heap.size ∧ σ be = none := by
 obtain ⟨x, h1, _, h3⟩ := h
 exact ⟨h3.exe.lt, h3.exe.no⟩
structure MX (B : Nat) (σ : Sg) (L g : Nat) (κ : Nat → Nat) (d : MD) (w : World) : Prop where
 core : Core σ L w
 mem : Bl σ nB w d.t.bm (memB L)
 tat : TAt σ w d.t
 km : κ d.t.bm = 6
 kt : κ d.t.bt = 5
 ko : κ d.t.bo = 7
 gm : B ≤ d.t.bm
 gt : B ≤ d.t.bt
 go : B ≤ d.t.bo
 ex : ∀ i b, d.exs[i]? = some (some b) → EX d.t.bm b σ L g w ∧ κ b = 10 + i ∧ B ≤ b
theorem MX.keep {B : Nat} {σ σ' : Sg} {L g : Nat} {κ : Nat → Nat} {d : MD} {w w' : World} {S : Nat → Prop} (h : MX B σ L g κ d w) (F : FM S σ w σ' w') (hS : ∀ b, S b → κ b ≠ 5 ∧ κ b ≠ 6 ∧ κ b ≠ 7 ∧ κ b < 10) (hc : Core σ' L w') : MX B σ' L g κ d w' := by
 have hm := F.bl h.mem fun hs => (hS _ hs).2.1 h.km
 refine ⟨hc, hm, h.tat.keep F (fun hs => (hS _ hs).1 h.kt) (fun hs => (hS _ hs).2.2.1 h.ko), h.km, h.kt, h.ko, h.gm, h.gt, h.go, fun i b hb => ?_⟩
 obtain ⟨h1, h2, h3⟩ := h.ex i b hb
 refine ⟨h1.other hc hm (Nat.le_refl _) F.sg (F.non h1.lt.1 h1.lt.2) (F.old b h1.lt.1 h1.lt.2 fun hs => ?_), h2, h3⟩
 have := (hS b hs).2.2.2
 omega
theorem MX.run {B : Nat} {σ σ' : Sg} {L L' g g' : Nat} {κ : Nat → Nat} {d : MD} {w w' : World} (h : MX B σ L g κ d w) {i be : Nat} (hi : d.exs[i]? = some (some be)) (hx : EX d.t.bm be σ' L' g' w') (hl : L ≤ L') (hg : g ≤ g') (hf : HF d.t.bm be σ w σ' w') : MX B σ' L' g' κ d w' := by
 have F := hf.fm
 obtain ⟨x1, x2, x3⟩ := h.ex i be hi
 refine ⟨hx.core, hx.mem, h.tat.keep F (fun hs => ?_) (fun hs => ?_), h.km, h.kt, h.ko, h.gm, h.gt, h.go, fun j b hb => ?_⟩
 ·rcases hs with e | e
  ·exact h.tat.nm e
  ·have := h.kt; rw [e] at this; omega
 ·rcases hs with e | e
  ·exact h.tat.om e
  ·have := h.ko; rw [e] at this; omega
 ·obtain ⟨h1, h2, h3⟩ := h.ex j b hb
  by_cases e : j = i
  ·subst e
   rw [hi] at hb
   injection hb with hb
   injection hb with hb
   subst hb
   exact ⟨hx, h2, h3⟩
  ·refine ⟨(h1.ge hg).other hx.core hx.mem hl F.sg (F.non h1.lt.1 h1.lt.2) (F.old b h1.lt.1 h1.lt.2 fun hs => ?_), h2, h3⟩
   rcases hs with e' | e'
   ·have := h.km; rw [← e'] at this; omega
   ·rw [e'] at h2; omega
theorem MF.run {B : Nat} {w0 : World} {σ σ' : Sg} {L g : Nat} {κ : Nat → Nat} {d : MD} {w w' : World} (h : MF B w0 σ κ d w) (hm : MX B σ L g κ d w) {i be : Nat} (hi : d.exs[i]? = some (some be)) (hf : HF d.t.bm be σ w σ' w') : MF B w0 σ' κ d w' := by
 obtain ⟨x1, x2, x3⟩ := hm.ex i be hi
 refine h.keep hf.fm fun b hb => ?_
 unfold fixK
 rcases hb with e | e
 ·rw [e, hm.km]; exact ⟨hm.gm, by omega⟩
 ·rw [e, x2]; exact ⟨x3, by omega⟩
theorem run_app (S e : TypeId) (hT : Tryz.prog.underlying S = some (.slice e)) {z : Value} {sz by8 : Nat} (hinfo : (Tryz.prog.info? e).map (fun i => (i.zero, i.size, i.bytes)) = some (some z, sz, by8)) (hz : z.cells.size = sz) (h0 : 0 < sz) (hb8 : by8 ≤ 1000)
  (ty : TypeId) (B : Nat) (w : World) (u : Value) (n : Nat) (xs : List Value) (hown : w.ownsRow B e sz u n xs) (ad : Addr) (ys : List Value) (hy : ys.length = sz) (hc : ∀ j x, ys[j]? = some x → w.cell? (ad.add j) = some x) (h1 : ∀ x ∈ ys, x.oneCell' = true) (hB : B ≤ w.heap.size) (hn : n ≤ 1048576) :
  ∃ a' c' w', (Builtin.append_ #[S, S] ty #[u, .slice (some ad) 1 1]).run Tryz.prog w = .ok (.slice a' (n + 1) c') w' ∧ w'.ownsRow B e sz (.slice a' (n + 1) c') (n + 1) (xs ++ ys) ∧ w.grownBy w' u.ownBlock ∧ (∀ b, (Value.slice a' (n + 1) c').ownBlock = some b → u.ownBlock = some b ∨ w.heap.size ≤ b) := by
 obtain ⟨i0, hi, hz0, hz1, hz2⟩ := info_parts3 hinfo
 have hby : (n + 1) * by8 ≤ 140737488355328 := by
  have : (n + 1) * by8 ≤ 1048577 * 1000 := Nat.mul_le_mul (by omega) hb8
  omega
 have hby0 : (0 + 1) * by8 ≤ 140737488355328 := by omega
 obtain ⟨v', w', hr, ho, hg, _⟩ := run_append_own (P := Tryz.prog) w B S ty e i0 _ sz by8 hT hi hz0 hz1 hz2 hz h0 u n xs hown ad 1 1 ys (by omega) hc h1 (by unfold maxLen; omega) hby hB
 obtain ⟨a', c', rfl⟩ := row_form ho
 refine ⟨a', c', w', hr, ho, hg, ?_⟩
 rcases hown.2 with ⟨rfl, rfl⟩ | ⟨g, cap, cur, rfl, hBg, hgc, hnc, hcm, hcs, htk⟩
 ·have hx : xs = [] := List.eq_nil_of_length_eq_zero (by simpa using hown.1)
  subst hx
  obtain ⟨v2, w2, hr2, ho2, _, _⟩ := run_append_own (P := Tryz.prog) w w.heap.size S ty e i0 _ sz by8 hT hi hz0 hz1 hz2 hz h0 (.slice none 0 0) 0 [] (World.ownsRow_nil w _ _ _) ad 1 1 ys (by omega) hc h1 (by unfold maxLen; omega) hby0 (Nat.le_refl _)
  rw [hr] at hr2
  simp only [Result.ok.injEq] at hr2
  obtain ⟨rfl, rfl⟩ := hr2
  exact fun b hb => Or.inr (row_kind ho2 hb).1
 ·by_cases hroom : n + 1 ≤ cap
  ·obtain ⟨w2, hr2, _, _⟩ := run_append_own_spare (P := Tryz.prog) w B S ty e i0 sz hT hi hz1 g n cap xs hown ad 1 1 ys (by omega) hc h1 hroom
   rw [hr] at hr2
   simp only [Result.ok.injEq] at hr2
   obtain ⟨h2, rfl⟩ := hr2
   intro b hb
   rw [h2] at hb
   exact Or.inl hb
  ·obtain ⟨v2, w2, hr2, ho2, _⟩ := run_append_arg_grows (P := Tryz.prog) w S ty e i0 _ sz by8 hT hi hz0 hz1 hz2 hz h0 ⟨g, 0, none⟩ n cap xs hown.1 (hown.cells (g := g) rfl) ad 1 1 ys (by omega) hc (by omega) (by unfold maxLen; omega) hby
   rw [hr] at hr2
   simp only [Result.ok.injEq] at hr2
   obtain ⟨rfl, rfl⟩ := hr2
   exact fun b hb => Or.inr (row_kind ho2 hb).1
theorem wpList_push {ops : Array Oper} {rest : List Oper} {o : Oper} {a : Act} {Q : Exit → Act → World → Prop} (S e : TypeId) (hT : Tryz.prog.underlying S = some (.slice e)) {z : Value} {sz by8 : Nat} (hinfo : (Tryz.prog.info? e).map (fun i => (i.zero, i.size, i.bytes)) = some (some z, sz, by8)) (hz : z.cells.size = sz) (h0 : 0 < sz) (hb8 : by8 ≤ 1000)
  (hgd : o.guard = none) (s x : Operand) (ho : o.op = .call { callee := .builtin .append, args := #[s, x], argTypes := #[S, S] })
  (B : Nat) (w : World) (u : Value) (n : Nat) (xs : List Value) (hs : a.eval s = u) (hown : w.ownsRow B e sz u n xs) (ad : Addr) (ys : List Value) (hx : a.eval x = .slice (some ad) 1 1) (hy : ys.length = sz) (hc : ∀ j x, ys[j]? = some x → w.cell? (ad.add j) = some x) (h1 : ∀ x ∈ ys, x.oneCell' = true) (hB : B ≤ w.heap.size) (hn : n ≤ 1048576)
  (hK : ∀ a' c' w', w'.ownsRow B e sz (.slice a' (n + 1) c') (n + 1) (xs ++ ys) → w.grownBy w' u.ownBlock → (∀ b, (Value.slice a' (n + 1) c').ownBlock = some b → u.ownBlock = some b ∨ w.heap.size ≤ b) → wpList Tryz.prog ops Q rest (a.put o.dst (.slice a' (n + 1) c')) w') : wpList Tryz.prog ops Q (o :: rest) a w := by
 refine wpList_plain hgd fun K hK' => ?_
 obtain ⟨a', c', w', hr, ho', hg, hnew⟩ := run_app S e hT hinfo hz h0 hb8 o.type B w u n xs hown ad ys hy hc h1 hB hn
 unfold Oper.wp execOp
 simp only [ho, resolve, invoke, builtin, Sem.run_bind, Sem.run_pure, Result.andThen_ok, List.map_toArray, List.map_cons, List.map_nil, hs, hx, hr]
 exact hK' _ _ (hK a' c' w' ho' hg hnew)
theorem step_push {ops : Array Oper} {o : Oper} {a : Act} {K : Act → World → Prop} {Q : Exit → Act → World → Prop} {E : Prop} (S e : TypeId) (hT : Tryz.prog.underlying S = some (.slice e)) {z : Value} {sz by8 : Nat} (hinfo : (Tryz.prog.info? e).map (fun i => (i.zero, i.size, i.bytes)) = some (some z, sz, by8)) (hz : z.cells.size = sz) (h0 : 0 < sz) (hb8 : by8 ≤ 1000)
  (hgd : o.guard = none) (s x : Operand) (ho : o.op = .call { callee := .builtin .append, args := #[s, x], argTypes := #[S, S] })
  (B : Nat) (w : World) (u : Value) (n : Nat) (xs : List Value) (hs : a.eval s = u) (hown : w.ownsRow B e sz u n xs) (ad : Addr) (ys : List Value) (hx : a.eval x = .slice (some ad) 1 1) (hy : ys.length = sz) (hc : ∀ j x, ys[j]? = some x → w.cell? (ad.add j) = some x) (h1 : ∀ x ∈ ys, x.oneCell' = true) (hB : B ≤ w.heap.size) (hn : n ≤ 1048576)
  (hK : ∀ a' c' w', w'.ownsRow B e sz (.slice a' (n + 1) c') (n + 1) (xs ++ ys) → w.grownBy w' u.ownBlock → (∀ b, (Value.slice a' (n + 1) c').ownBlock = some b → u.ownBlock = some b ∨ w.heap.size ≤ b) → K (a.put o.dst (.slice a' (n + 1) c')) w') : if Region.wanted o (yielded ops a.tmps) = true then Oper.wp Tryz.prog o a w K Q else E := by
 have hw : Region.wanted o (yielded ops a.tmps) = true := by simp [Region.wanted, hgd]
 rw [if_pos hw]
 obtain ⟨a', c', w', hr, ho', hg, hnew⟩ := run_app S e hT hinfo hz h0 hb8 o.type B w u n xs hown ad ys hy hc h1 hB hn
 unfold Oper.wp execOp
 simp only [ho, resolve, invoke, builtin, Sem.run_bind, Sem.run_pure, Result.andThen_ok, List.map_toArray, List.map_cons, List.map_nil, hs, hx, hr]
 exact hK a' c' w' ho' hg hnew
theorem ev_info : (Tryz.prog.info? 72).map (fun i => (i.zero, i.size, i.bytes)) = some (some (.agg #[.int .i64 0, .int .i64 0, .bool false, .int .i64 0, .bool false, .int .u64 0, .string ⟨#[]⟩, .int .i64 0, .int .i64 0, .int .i64 0, .bool false]), 11, 96) := by kernel_rfl
theorem en_info : (Tryz.prog.info? 97).map (fun i => (i.zero, i.size, i.bytes)) = some (some (.agg #[.int .i64 0, .int .i64 0, .int .i64 0, .int .i64 0, .int .i64 0, .int .i64 0, .bool false]), 7, 56) := by kernel_rfl
theorem OnB.fm {S : Nat → Prop} {σ : Sg} {w w' : World} (h : OnB S w w') : FM S σ w σ w' := ⟨h.os, h.tape, h.output, h.size, Le.refl _, fun _ _ h => .inl h, fun b h1 _ h3 => h.block b h1 h3⟩
theorem Core.on {S : Nat → Prop} {σ : Sg} {L : Nat} {w w' : World} (h : Core σ L w) (ho : OnB S w w') (hS : ∀ b, S b → σ b = none) : Core σ L w' :=
 h.same ho.size fun b hb => by
  obtain ⟨x, hx⟩ := Option.ne_none_iff_exists'.1 hb
  exact ho.block b (h.lt b x hx) fun hs => hb (hS b hs)
section
variable {B : Nat} {w0 w w' : World} {σ σ' : Sg} {κ κ' : Nat → Nat} {d : MD} {L g : Nat}
theorem MF.kap (h : MF B w0 σ κ d w) (hk : ∀ b, b < w.heap.size → κ' b = κ b) : MF B w0 σ κ' d w := by
 have k : ∀ b o, w.heap[b]? = some o → κ' b = κ b := fun b o hb => hk b (Array.getElem?_eq_some_iff.1 hb).1
 exact ⟨h.below, h.size, h.sg, h.M, h.A, h.X, h.Y, h.ev, h.tr, h.la, h.lx, h.ly, h.nM, h.nA, h.nX, h.nY, fun b hb => ⟨(h.nE b hb).1, (hk b (rowW_lt h.ev hb).2).trans (h.nE b hb).2⟩, fun b hb => ⟨(h.nR b hb).1, (hk b (rowW_lt h.tr hb).2).trans (h.nR b hb).2⟩,
  (k _ _ h.M).trans h.kM, (k _ _ h.A).trans h.kA, (k _ _ h.X).trans h.kX, (k _ _ h.Y).trans h.kY, h.gM, h.gA, h.gX, h.gY⟩
theorem MX.kap (h : MX B σ L g κ d w) (hk : ∀ b, b < w.heap.size → κ' b = κ b) : MX B σ L g κ' d w :=
 ⟨h.core, h.mem, h.tat, (hk _ h.mem.lt).trans h.km, (hk _ h.tat.lt).trans h.kt, (hk _ h.tat.olt).trans h.ko, h.gm, h.gt, h.go, fun i b hb => by
  obtain ⟨h1, h2, h3⟩ := h.ex i b hb
  exact ⟨h1, (hk b h1.lt.1).trans h2, h3⟩⟩
theorem MX.to {d' : MD} (h : MX B σ L g κ d w) (ht : d'.t = d.t) (he : ∀ (i b : Nat), d'.exs[i]? = some (some b) → d.exs[i]? = some (some b)) : MX B σ L g κ d' w := by
 refine ⟨h.core, ?_, ?_, ?_, ?_, ?_, ?_, ?_, ?_, fun i b hb => ?_⟩ <;> rw [ht]
 ·exact h.mem
 ·exact h.tat
 ·exact h.km
 ·exact h.kt
 ·exact h.ko
 ·exact h.gm
 ·exact h.gt
 ·exact h.go
 ·exact h.ex i b (he i b hb)
def four (d : MD) (b : Nat) : Prop := b = d.bM ∨ b = d.ba ∨ b = d.bx ∨ b = d.bb
theorem MF.four (h : MF B w0 σ κ d w) {b : Nat} (hb : four d b) : σ b = none ∧ B ≤ b ∧ κ b ≤ 4 ∧ 1 ≤ κ b := by
 rcases hb with e | e | e | e <;> subst e
 ·rw [h.kM]; exact ⟨h.nM, h.gM, by omega, by omega⟩
 ·rw [h.kA]; exact ⟨h.nA, h.gA, by omega, by omega⟩
 ·rw [h.kX]; exact ⟨h.nX, h.gX, by omega, by omega⟩
 ·rw [h.kY]; exact ⟨h.nY, h.gY, by omega, by omega⟩
theorem MX.on (h : MX B σ L g κ d w) (hf : MF B w0 σ κ d w) (ho : OnB (Tv.four d) w w') : MX B σ L g κ d w' :=
 h.keep ho.fm (fun b hb => by have := (hf.four hb).2.2; omega) (h.core.on ho fun b hb => (hf.four hb).1)
theorem MF.upd (h : MF B w0 σ κ d w) (pk cur most : Int) (ats bys : List Int) (exs : List (Option Nat)) (la : ats.length = d.nT) (lx : exs.length = d.nT) (ly : bys.length = d.nT) (ho : OnB (Tv.four d) w w')
  (M' : w'.heap[d.bM]? = some (.cells (MD.cells { d with pk := pk, cur := cur, most := most }) 38 (0, 0))) (A' : w'.heap[d.ba]? = some (.cells (ats.map (Value.int .i64)).toArray 3 (0, 0)))
  (X' : w'.heap[d.bx]? = some (.cells (exs.map exP).toArray 90 (0, 0))) (Y' : w'.heap[d.bb]? = some (.cells (bys.map (Value.int .i64)).toArray 3 (0, 0))) : MF B w0 σ κ { d with pk := pk, cur := cur, most := most, ats := ats, exs := exs, bys := bys } w' := by
 have nf : ∀ b, 5 ≤ κ b → ¬ Tv.four d b := fun b hb hs => by have := (h.four hs).2.2; omega
 refine ⟨⟨ho.os.trans h.below.os, ho.tape.trans h.below.tape, ho.output.trans h.below.output, Nat.le_trans h.below.size ho.size, fun b hb => (ho.block b (Nat.lt_of_lt_of_le hb h.size) fun hs => ?_).trans (h.below.block b hb)⟩, Nat.le_trans h.size ho.size, h.sg, M', A', X', Y', ?_, ?_, la, lx, ly, h.nM, h.nA, h.nX, h.nY, h.nE, h.nR, h.kM, h.kA, h.kX, h.kY, h.gM, h.gA, h.gX, h.gY⟩
 ·have := (h.four hs).2.1; omega
 ·exact rowW_keep h.ev fun g hg => ho.block g (rowW_lt h.ev hg).2 (nf g (by rw [(h.nE g hg).2]; omega))
 ·exact rowW_keep h.tr fun g hg => ho.block g (rowW_lt h.tr hg).2 (nf g (by rw [(h.nR g hg).2]; omega))
theorem MF.pushE (h : MF B w0 σ κ d w) (hz : ∀ b, w.heap.size ≤ b → σ b = none) (e : EvD) {a' : Option Addr} {c' : Nat} (hrow : w'.ownsRow B 72 11 (.slice a' (d.evs.length + 1) c') (d.evs.length + 1) (d.evs.flatMap EvD.cells ++ e.cells)) (hg : w.grownBy w' (Value.slice d.AE d.evs.length d.cE).ownBlock) (hnew : ∀ b, (Value.slice a' (d.evs.length + 1) c').ownBlock = some b → (Value.slice d.AE d.evs.length d.cE).ownBlock = some b ∨ w.heap.size ≤ b) :
  ∃ κ' : Nat → Nat, (∀ b, b < w.heap.size → κ' b = κ b) ∧ MF B w0 σ κ' { d with AE := a', cE := c', evs := d.evs ++ [e] } (w'.setCell ⟨d.bM, 6, none⟩ (.slice a' (d.evs.length + 1) c')) ∧ (∀ b, b < w.heap.size → κ b ≠ 8 → b ≠ d.bM → (w'.setCell ⟨d.bM, 6, none⟩ (.slice a' (d.evs.length + 1) c')).heap[b]? = w.heap[b]?) := by
 have own : ∀ b, (Value.slice d.AE d.evs.length d.cE).ownBlock = some b → κ b = 8 := fun b hb => (h.nE b hb).2
 refine ⟨fun b => if (Value.slice a' (d.evs.length + 1) c').ownBlock = some b then 8 else κ b, fun b hb => ?_, ?_, ?_⟩
 ·show (if _ then _ else _) = _
  split
  ·rename_i e
   rcases hnew b e with h1 | h1
   ·exact (own b h1).symm
   ·omega
  ·rfl
 rotate_left
 ·intro b hb hk hM
  exact (Below.heap_setCell w' ⟨d.bM, 6, none⟩ _ b hM).trans (hg.block b hb fun e => hk (own b e.symm))
 have hk : ∀ b, b < w.heap.size → (if (Value.slice a' (d.evs.length + 1) c').ownBlock = some b then 8 else κ b) = κ b := fun b hb => by
  split
  ·rename_i e
   rcases hnew b e with h1 | h1
   ·exact (own b h1).symm
   ·omega
  ·rfl
 have old : ∀ b o, w.heap[b]? = some o → κ b ≠ 8 → b ≠ d.bM → (w'.setCell ⟨d.bM, 6, none⟩ (.slice a' (d.evs.length + 1) c')).heap[b]? = some o := fun b o h1 h2 h3 =>
  set_other ((hg.block b (Array.getElem?_eq_some_iff.1 h1).1 fun e => h2 (own b e.symm)).trans h1) h3
 have hM : w'.heap[d.bM]? = some (.cells d.cells 38 (0, 0)) := (hg.block _ (Array.getElem?_eq_some_iff.1 h.M).1 fun e => by have := own _ e.symm; rw [h.kM] at this; omega).trans h.M
 have h1 : d.ba ≠ d.bM := fun e => by have := h.kA; rw [e, h.kM] at this; omega
 have h2 : d.bx ≠ d.bM := fun e => by have := h.kX; rw [e, h.kM] at this; omega
 have h3 : d.bb ≠ d.bM := fun e => by have := h.kY; rw [e, h.kM] at this; omega
 have hs : (w'.setCell ⟨d.bM, 6, none⟩ (.slice a' (d.evs.length + 1) c')).heap.size = w'.heap.size := by simp [World.setCell]
 have lt : ∀ b o, w.heap[b]? = some o → b < w.heap.size := fun b o h => (Array.getElem?_eq_some_iff.1 h).1
 refine ⟨⟨hg.os.trans h.below.os, hg.tape.trans h.below.tape, hg.output.trans h.below.output, by rw [hs]; exact Nat.le_trans h.below.size hg.size, fun b hb => ?_⟩, by rw [hs]; exact Nat.le_trans h.size hg.size, h.sg, ?_, old _ _ h.A (by rw [h.kA]; omega) h1, old _ _ h.X (by rw [h.kX]; omega) h2, old _ _ h.Y (by rw [h.kY]; omega) h3, ?_, ?_, h.la, h.lx, h.ly, h.nM, h.nA, h.nX, h.nY, ?_, ?_, (hk _ (lt _ _ h.M)).trans h.kM, (hk _ (lt _ _ h.A)).trans h.kA, (hk _ (lt _ _ h.X)).trans h.kX, (hk _ (lt _ _ h.Y)).trans h.kY, h.gM, h.gA, h.gX, h.gY⟩
 ·refine (Below.heap_setCell w' ⟨d.bM, 6, none⟩ _ b (fun e => ?_)).trans ((hg.block b (Nat.lt_of_lt_of_le hb h.size) fun e => ?_).trans (h.below.block b hb))
  ·have e : b = d.bM := e
   have := h.gM; omega
  ·have := (rowW_lt h.ev e.symm).1; omega
 ·have := blk_setW (i := 6) hM (.slice a' (d.evs.length + 1) c')
  rw [this]
  congr 2
  simp [MD.cells]
 ·have hl : (d.evs ++ [e]).length = d.evs.length + 1 := by simp
  have hf : (d.evs ++ [e]).flatMap EvD.cells = d.evs.flatMap EvD.cells ++ e.cells := by simp
  show World.ownsRow _ B _ 11 (.slice a' (d.evs ++ [e]).length c') (d.evs ++ [e]).length ((d.evs ++ [e]).flatMap EvD.cells)
  rw [hl, hf]
  exact rowW_keep hrow fun g' hg' => Below.heap_setCell w' ⟨d.bM, 6, none⟩ _ g' fun e' => by
   have e' : g' = d.bM := e'
   rcases hnew g' hg' with q | q
   ·have := own g' q; rw [e', h.kM] at this; omega
   ·have := lt _ _ h.M; omega
 ·exact rowW_keep h.tr fun g' hg' => by
   refine (Below.heap_setCell w' ⟨d.bM, 6, none⟩ _ g' fun e' => ?_).trans (hg.block g' (rowW_lt h.tr hg').2 fun e' => ?_)
   ·have e' : g' = d.bM := e'
    have := (h.nR g' hg').2; rw [e', h.kM] at this; omega
   ·have := own g' e'.symm; rw [(h.nR g' hg').2] at this; omega
 ·intro b hb
  have hl : (d.evs ++ [e]).length = d.evs.length + 1 := by simp
  have hb : (Value.slice a' (d.evs ++ [e]).length c').ownBlock = some b := hb
  rw [hl] at hb
  refine ⟨?_, by rw [if_pos hb]⟩
  rcases hnew b hb with q | q
  ·exact (h.nE b q).1
  ·exact hz b q
 ·exact fun b hb => ⟨(h.nR b hb).1, (hk b (rowW_lt h.tr hb).2).trans (h.nR b hb).2⟩
theorem MF.pushR (h : MF B w0 σ κ d w) (hz : ∀ b, w.heap.size ≤ b → σ b = none) (ys : List Value) {a' : Option Addr} {c' : Nat} (hrow : w'.ownsRow B 97 7 (.slice a' (d.nR + 1) c') (d.nR + 1) (d.xs ++ ys)) (hg : w.grownBy w' (Value.slice d.AR d.nR d.cR).ownBlock) (hnew : ∀ b, (Value.slice a' (d.nR + 1) c').ownBlock = some b → (Value.slice d.AR d.nR d.cR).ownBlock = some b ∨ w.heap.size ≤ b) :
  ∃ κ' : Nat → Nat, (∀ b, b < w.heap.size → κ' b = κ b) ∧ MF B w0 σ κ' { d with AR := a', nR := d.nR + 1, cR := c', xs := d.xs ++ ys } (w'.setCell ⟨d.bM, 7, none⟩ (.slice a' (d.nR + 1) c')) ∧ (∀ b, b < w.heap.size → κ b ≠ 9 → b ≠ d.bM → (w'.setCell ⟨d.bM, 7, none⟩ (.slice a' (d.nR + 1) c')).heap[b]? = w.heap[b]?) := by
 have own : ∀ b, (Value.slice d.AR d.nR d.cR).ownBlock = some b → κ b = 9 := fun b hb => (h.nR b hb).2
 refine ⟨fun b => if (Value.slice a' (d.nR + 1) c').ownBlock = some b then 9 else κ b, fun b hb => ?_, ?_, ?_⟩
 ·show (if _ then _ else _) = _
  split
  ·rename_i e
   rcases hnew b e with h1 | h1
   ·exact (own b h1).symm
   ·omega
  ·rfl
 rotate_left
 ·intro b hb hk hM
  exact (Below.heap_setCell w' ⟨d.bM, 7, none⟩ _ b hM).trans (hg.block b hb fun e => hk (own b e.symm))
 have hk : ∀ b, b < w.heap.size → (if (Value.slice a' (d.nR + 1) c').ownBlock = some b then 9 else κ b) = κ b := fun b hb => by
  split
  ·rename_i e
   rcases hnew b e with h1 | h1
   ·exact (own b h1).symm
   ·omega
  ·rfl
 have old : ∀ b o, w.heap[b]? = some o → κ b ≠ 9 → b ≠ d.bM → (w'.setCell ⟨d.bM, 7, none⟩ (.slice a' (d.nR + 1) c')).heap[b]? = some o := fun b o h1 h2 h3 =>
  set_other ((hg.block b (Array.getElem?_eq_some_iff.1 h1).1 fun e => h2 (own b e.symm)).trans h1) h3
 have hM : w'.heap[d.bM]? = some (.cells d.cells 38 (0, 0)) := (hg.block _ (Array.getElem?_eq_some_iff.1 h.M).1 fun e => by have := own _ e.symm; rw [h.kM] at this; omega).trans h.M
 have h1 : d.ba ≠ d.bM := fun e => by have := h.kA; rw [e, h.kM] at this; omega
 have h2 : d.bx ≠ d.bM := fun e => by have := h.kX; rw [e, h.kM] at this; omega
 have h3 : d.bb ≠ d.bM := fun e => by have := h.kY; rw [e, h.kM] at this; omega
 have hs : (w'.setCell ⟨d.bM, 7, none⟩ (.slice a' (d.nR + 1) c')).heap.size = w'.heap.size := by simp [World.setCell]
 have lt : ∀ b o, w.heap[b]? = some o → b < w.heap.size := fun b o h => (Array.getElem?_eq_some_iff.1 h).1
 refine ⟨⟨hg.os.trans h.below.os, hg.tape.trans h.below.tape, hg.output.trans h.below.output, by rw [hs]; exact Nat.le_trans h.below.size hg.size, fun b hb => ?_⟩, by rw [hs]; exact Nat.le_trans h.size hg.size, h.sg, ?_, old _ _ h.A (by rw [h.kA]; omega) h1, old _ _ h.X (by rw [h.kX]; omega) h2, old _ _ h.Y (by rw [h.kY]; omega) h3, ?_, ?_, h.la, h.lx, h.ly, h.nM, h.nA, h.nX, h.nY, ?_, ?_, (hk _ (lt _ _ h.M)).trans h.kM, (hk _ (lt _ _ h.A)).trans h.kA, (hk _ (lt _ _ h.X)).trans h.kX, (hk _ (lt _ _ h.Y)).trans h.kY, h.gM, h.gA, h.gX, h.gY⟩
 ·refine (Below.heap_setCell w' ⟨d.bM, 7, none⟩ _ b (fun e => ?_)).trans ((hg.block b (Nat.lt_of_lt_of_le hb h.size) fun e => ?_).trans (h.below.block b hb))
  ·have e : b = d.bM := e
   have := h.gM; omega
  ·have := (rowW_lt h.tr e.symm).1; omega
 ·have := blk_setW (i := 7) hM (.slice a' (d.nR + 1) c')
  rw [this]
  congr 2
 ·exact rowW_keep h.ev fun g' hg' => by
   refine (Below.heap_setCell w' ⟨d.bM, 7, none⟩ _ g' fun e' => ?_).trans (hg.block g' (rowW_lt h.ev hg').2 fun e' => ?_)
   ·have e' : g' = d.bM := e'
    have := (h.nE g' hg').2; rw [e', h.kM] at this; omega
   ·have := own g' e'.symm; rw [(h.nE g' hg').2] at this; omega
 ·exact rowW_keep hrow fun g' hg' => Below.heap_setCell w' ⟨d.bM, 7, none⟩ _ g' fun e' => by
   have e' : g' = d.bM := e'
   rcases hnew g' hg' with q | q
   ·have := own g' q; rw [e', h.kM] at this; omega
   ·have := lt _ _ h.M; omega
 ·exact fun b hb => ⟨(h.nE b hb).1, (hk b (rowW_lt h.ev hb).2).trans (h.nE b hb).2⟩
 ·intro b hb
  refine ⟨?_, by rw [if_pos hb]⟩
  rcases hnew b hb with q | q
  ·exact (h.nR b q).1
  ·exact hz b q
end
def EnV (e : Ending) : Prop := ∃ (e0 e1 e2 e3 e4 e5 : Int) (b : Bool), e = .returned (.agg #[.int .i64 e0, .int .i64 e1, .int .i64 e2, .int .i64 e3, .int .i64 e4, .int .i64 e5, .bool b])
theorem mem_form {σ : Sg} {L : Nat} {w : World} {b : Nat} (h : Bl σ nB w b (memB L)) : ∃ (AN : Option Addr) (nN cN : Nat) (AC : Option Addr) (nC cC : Nat) (g ac : Int) (T : TypeId), w.heap[b]? = some (.cells #[.slice AN nN cN, .slice AC nC cC, .int .i64 g, .int .i64 ac] T (0, 0)) ∧ SlOk tab σ 51 AC nC cC := by
 obtain ⟨vs, T, h1, h2, _⟩ := h.blk
 obtain ⟨l⟩ := vs
 unfold memB at h2
 simp only at h2
 rcases h2 with _ | ⟨⟨AN, nN, cN, rfl, _⟩, _ | ⟨⟨AC, nC, cC, rfl, _, hs⟩, _ | ⟨⟨g, rfl, _⟩, _ | ⟨⟨ac, rfl, _⟩, _ | _⟩⟩⟩⟩
 exact ⟨AN, nN, cN, AC, nC, cC, g, ac, T, h1, hs⟩
theorem ref_at {σ : Sg} {L : Nat} {w : World} (hc : Core σ L w) {A : Option Addr} {n c : Nat} (h : SlOk tab σ 51 A n c) {k : Nat} (hk : k < n) : ∃ (b off : Nat) (z : Int), A = some ⟨b, off, none⟩ ∧ b < w.heap.size ∧ w.cell? ⟨b, off + k, none⟩ = some (.int .i64 z) := by
 obtain ⟨h1, h2, h3, h4⟩ := h
 cases A with
 | none => have := h3 rfl; omega
 | some a =>
  obtain ⟨g1, m, q, g2, g3, g4⟩ := h4 a rfl
  obtain ⟨b, off, sp⟩ := a
  simp only at g1 g2 g3
  subst g1
  have hl : tab.lay 51 = [.int .i64] := rfl
  rw [hl] at g2 g3
  have g3 : off = q * 1 := g3
  obtain ⟨v, ct, cs, T, e1, e2, e3, e4, e5⟩ := hc.cell g2 (i := off + k) (by show _ < m * 1; omega)
  have d : (off + k) % [CT.int .i64].length = 0 := by simp [Nat.mod_one]
  rw [d] at e4
  simp only [List.getElem?_cons_zero, Option.some.injEq] at e4
  subst e4
  obtain ⟨z, rfl, _⟩ := e5
  exact ⟨b, off, z, rfl, hc.lt _ _ g2, (blk_cell e1 _).trans e3⟩
theorem en_res {W : World} {P : Nat} {T : TypeId} {e0 e1 e2 e3 e4 e5 : Int} {b : Bool} (h : W.heap[P]? = some (.cells #[.int .i64 e0, .int .i64 e1, .int .i64 e2, .int .i64 e3, .int .i64 e4, .int .i64 e5, .bool b] T (0, 0))) {a : Act} (ha : a.tmps.getD 6 Go.undef = .pointer (some ⟨P, 0, none⟩)) :
  (results Tryz.f44 a.tmps).run Tryz.prog W = .ok (.agg #[.int .i64 e0, .int .i64 e1, .int .i64 e2, .int .i64 e3, .int .i64 e4, .int .i64 e5, .bool b]) W := by
 have v0 : W.cell? ⟨P, 0, none⟩ = some (.int .i64 e0) := blk_cell h 0
 have v1 : W.cell? ⟨P, 1, none⟩ = some (.int .i64 e1) := blk_cell h 1
 have v2 : W.cell? ⟨P, 2, none⟩ = some (.int .i64 e2) := blk_cell h 2
 have v3 : W.cell? ⟨P, 3, none⟩ = some (.int .i64 e3) := blk_cell h 3
 have v4 : W.cell? ⟨P, 4, none⟩ = some (.int .i64 e4) := blk_cell h 4
 have v5 : W.cell? ⟨P, 5, none⟩ = some (.int .i64 e5) := blk_cell h 5
 have v6 : W.cell? ⟨P, 6, none⟩ = some (.bool b) := blk_cell h 6
 simp only [Array.getD_eq_getD_getElem?] at ha
 simp [results, Tryz.results44, go_sem, ha, v0, v1, v2, v3, v4, v5, v6]
theorem en_ret {W w : World} {P : Nat} {T : TypeId} (h : W.heap[P]? = some (.cells #[.int .i64 0, .int .i64 0, .int .i64 0, .int .i64 0, .int .i64 0, .int .i64 0, .bool false] T (0, 0))) (hb : Below w.heap.size w W) (hP : w.heap.size ≤ P) (e0 e1 e2 e3 e4 e5 : Int) (b : Bool) {a : Act} (ha : a.tmps.getD 6 Go.undef = .pointer (some ⟨P, 0, none⟩)) (hd : a.defers = []) :
  bodyPost Tryz.prog Tryz.f44 (fun e w' => EnV e ∧ Below w.heap.size w w') .ret a ((((((((W.setCell ⟨P, 0, none⟩ (.int .i64 e0)).setCell ⟨P, 1, none⟩ (.int .i64 e1)).setCell ⟨P, 2, none⟩ (.int .i64 e2)).setCell ⟨P, 3, none⟩ (.int .i64 e3)).setCell ⟨P, 4, none⟩ (.int .i64 e4)).setCell ⟨P, 5, none⟩ (.int .i64 e5)).setCell ⟨P, 6, none⟩ (.bool b))) := by
 have hb8 := blk_setW (i := 6) (blk_setW (i := 5) (blk_setW (i := 4) (blk_setW (i := 3) (blk_setW (i := 2) (blk_setW (i := 1) (blk_setW (i := 0) h (.int .i64 e0)) (.int .i64 e1)) (.int .i64 e2)) (.int .i64 e3)) (.int .i64 e4)) (.int .i64 e5)) (.bool b)
 refine bodyPost_ret (v := .agg #[.int .i64 e0, .int .i64 e1, .int .i64 e2, .int .i64 e3, .int .i64 e4, .int .i64 e5, .bool b]) (en_res (T := T) hb8 ha) hd ⟨⟨e0, e1, e2, e3, e4, e5, b, rfl⟩, ?_⟩
 exact ((((((hb.setCell (p := ⟨P, 0, none⟩) hP _).setCell (p := ⟨P, 1, none⟩) hP _).setCell (p := ⟨P, 2, none⟩) hP _).setCell (p := ⟨P, 3, none⟩) hP _).setCell (p := ⟨P, 4, none⟩) hP _).setCell (p := ⟨P, 5, none⟩) hP _).setCell (p := ⟨P, 6, none⟩) hP _
set_option maxRecDepth 100000 in
set_option maxHeartbeats 8000000 in
theorem entry_h {B : Nat} {w0 w : World} {σ : Sg} {κ : Nat → Nat} {d : MD} {L g : Nat} (hf : MF B w0 σ κ d w) (hx : MX B σ L g κ d w) (t a0 a1 a2 a3 : Int) (ha : InR .i64 a1) :
  Calls Tryz.prog 44 #[.pointer (some ⟨d.bM, 0, none⟩), .int .i64 t, .agg #[.int .i64 a0, .int .i64 a1, .int .i64 a2, .int .i64 a3]] w fun e w' => EnV e ∧ Below w.heap.size w w' := by
 obtain ⟨AN, nN, cN, AC, nC, cC, gg, ac, T, hm, hs⟩ := mem_form hx.mem
 have B0 : Below w.heap.size w ((w.alloc (.cells #[.int .i64 a0, .int .i64 a1, .int .i64 a2, .int .i64 a3] 93)).alloc (.cells #[.int .i64 0, .int .i64 0, .int .i64 0, .int .i64 0, .int .i64 0, .int .i64 0, .bool false] 97)) := (below_new _ _).alloc (by simp) _
 obtain ⟨W0, hW0⟩ : ∃ W0, W0 = (w.alloc (.cells #[.int .i64 a0, .int .i64 a1, .int .i64 a2, .int .i64 a3] 93)).alloc (.cells #[.int .i64 0, .int .i64 0, .int .i64 0, .int .i64 0, .int .i64 0, .int .i64 0, .bool false] 97) := ⟨_, rfl⟩
 have Z0 : W0.heap.size = w.heap.size + 2 := by rw [hW0]; simp
 have K0 : W0.heap[w.heap.size]? = some (.cells #[.int .i64 a0, .int .i64 a1, .int .i64 a2, .int .i64 a3] 93 (0, 0)) ∧ W0.heap[w.heap.size + 1]? = some (.cells #[.int .i64 0, .int .i64 0, .int .i64 0, .int .i64 0, .int .i64 0, .int .i64 0, .bool false] 97 (0, 0)) := by
  rw [hW0]
  have h1 := (heap_alloc (w.alloc (.cells #[.int .i64 a0, .int .i64 a1, .int .i64 a2, .int .i64 a3] 93)) (.cells #[.int .i64 0, .int .i64 0, .int .i64 0, .int .i64 0, .int .i64 0, .int .i64 0, .bool false] 97)).1
  have z : (w.alloc (.cells #[.int .i64 a0, .int .i64 a1, .int .i64 a2, .int .i64 a3] 93)).heap.size = w.heap.size + 1 := by simp
  rw [z] at h1
  exact ⟨(Below.heap_alloc _ _ _ (by simp)).trans (heap_alloc w _).1, h1⟩
 rw [← hW0] at B0
 have yM := blk_cell (kept_lt (B := 0) hf.M B0) 3
 have yT := blk_cell (kept_lt (B := 0) hx.tat.tab B0) 0
 have m0 := blk_cell (kept_lt (B := 0) hm B0) 0
 have m1 := blk_cell (kept_lt (B := 0) hm B0) 1
 have m2 := blk_cell (kept_lt (B := 0) hm B0) 2
 have x0 := blk_cell K0.1 0
 have x1 := blk_cell K0.1 1
 have x2 := blk_cell K0.1 2
 have x3 := blk_cell K0.1 3
 have z0 := blk_cell K0.2 0
 have z1 := blk_cell K0.2 1
 have z2 := blk_cell K0.2 2
 have z3 := blk_cell K0.2 3
 have z4 := blk_cell K0.2 4
 have z5 := blk_cell K0.2 5
 have z6 := blk_cell K0.2 6
 have f0 := blk_frozen K0.2 0
 have f1 := blk_frozen K0.2 1
 have f2 := blk_frozen K0.2 2
 have f3 := blk_frozen K0.2 3
 have f4 := blk_frozen K0.2 4
 have f5 := blk_frozen K0.2 5
 have f6 := blk_frozen K0.2 6
 simp only [MD.cells, TN.cells, List.getElem?_toArray, List.getElem?_cons_zero, List.getElem?_cons_succ] at yM yT m0 m1 m2 x0 x1 x2 x3 z0 z1 z2 z3 z4 z5 z6
 have lM := Nat.lt_of_lt_of_le (Array.getElem?_eq_some_iff.1 hf.M).1 B0.size
 have R : 1 ≤ a1 → a1 ≤ nC → ∃ (b off k : Nat) (z : Int), a1 - 1 = k ∧ k < nC ∧ AC = some ⟨b, off, none⟩ ∧ b < W0.heap.size ∧ W0.cell? ⟨b, off + k, none⟩ = some (.int .i64 z) := by
  intro h1 h2
  obtain ⟨k, hk⟩ := Int.eq_ofNat_of_zero_le (show 0 ≤ a1 - 1 by omega)
  obtain ⟨b, off, z, e1, e2, e3⟩ := ref_at hx.core hs (k := k) (by omega)
  exact ⟨b, off, k, z, hk, by omega, e1, Nat.lt_of_lt_of_le e2 B0.size, (World.cell?_of_block (a := ⟨b, off + k, none⟩) (B0.block b e2)).trans e3⟩
 have HB0 := Lib.hid B0
 have HK0 := Lib.hid K0
 have HZ0 := Lib.hid Z0
 obtain ⟨hl, hu⟩ := ha
 rw [i64_min] at hl
 rw [i64_max] at hu
 clear hm hs hf hx B0 K0 Z0
 go_enter Tryz.func44, Tryz.ntmps44
 go_upto_region 1 with fail
 rw [← hW0]
 clear hW0
 by_cases hr : 1 ≤ a1 ∧ a1 ≤ nC
 ·obtain ⟨b, off, k, z, hk, hkn, rfl, hb, hc⟩ := R hr.1 hr.2
  have hr1 := hr.1
  have hr2 := hr.2
  clear R hr
  go_upto_region 3 with fail
  obtain ⟨W1, hW1⟩ : ∃ W1, W1 = W0.alloc (.cells #[.slice AN nN cN, .slice (some ⟨b, off, none⟩) nC cC, .int .i64 gg] 113) := ⟨_, rfl⟩
  have B1 : Below W0.heap.size W0 W1 := by rw [hW1]; exact below_new _ _
  have K1 := (heap_alloc W0 (.cells #[.slice AN nN cN, .slice (some ⟨b, off, none⟩) nC cC, .int .i64 gg] 113)).1
  rw [← hW1] at K1 ⊢
  clear hW1
  have zz : W0.heap.size = w.heap.size + 2 := HZ0.out
  have s1 := blk_cell K1 1
  simp only [List.getElem?_toArray, List.getElem?_cons_zero, List.getElem?_cons_succ] at s1
  have kb : ∀ p : Addr, p.block < W0.heap.size → W1.cell? p = W0.cell? p := fun p hp => World.cell?_of_block (B1.block _ hp)
  have kf : ∀ p : Addr, p.block < W0.heap.size → W1.frozen? p = W0.frozen? p := fun p hp => World.frozen?_of_block (B1.block _ hp)
  rw [← kb _ (by dsimp only; omega)] at x0
  rw [← kb _ (by dsimp only; omega)] at x1
  rw [← kb _ (by dsimp only; omega)] at x2
  rw [← kb _ (by dsimp only; omega)] at x3
  rw [← kb _ (by dsimp only; omega)] at z0
  rw [← kb _ (by dsimp only; omega)] at z1
  rw [← kb _ (by dsimp only; omega)] at z2
  rw [← kb _ (by dsimp only; omega)] at z3
  rw [← kb _ (by dsimp only; omega)] at z4
  rw [← kb _ (by dsimp only; omega)] at z5
  rw [← kb _ (by dsimp only; omega)] at z6
  rw [← kf _ (by dsimp only; omega)] at f0
  rw [← kf _ (by dsimp only; omega)] at f1
  rw [← kf _ (by dsimp only; omega)] at f2
  rw [← kf _ (by dsimp only; omega)] at f3
  rw [← kf _ (by dsimp only; omega)] at f4
  rw [← kf _ (by dsimp only; omega)] at f5
  rw [← kf _ (by dsimp only; omega)] at f6
  have HB1 := Lib.hid (HB0.out.trans (B1.mono (by omega)))
  have KK := Lib.hid ((B1.block _ (by omega)).trans HK0.out.2)
  clear kf m0 m1 m2 yM yT B1 K1
  rw [← kb _ (by dsimp only; omega)] at hc
  clear kb HZ0 zz hb
  go_wp2_with fail
  all_goals
   exact en_ret KK.out HB1.out (by omega) _ _ _ _ _ _ _ rfl rfl
 ·clear R
  go_upto_region 3 with fail
  obtain ⟨W1, hW1⟩ : ∃ W1, W1 = W0.alloc (.cells #[.slice AN nN cN, .slice AC nC cC, .int .i64 gg] 113) := ⟨_, rfl⟩
  have B1 : Below W0.heap.size W0 W1 := by rw [hW1]; exact below_new _ _
  have K1 := (heap_alloc W0 (.cells #[.slice AN nN cN, .slice AC nC cC, .int .i64 gg] 113)).1
  rw [← hW1] at K1 ⊢
  clear hW1
  have zz : W0.heap.size = w.heap.size + 2 := HZ0.out
  have s1 := blk_cell K1 1
  simp only [List.getElem?_toArray, List.getElem?_cons_zero, List.getElem?_cons_succ] at s1
  have kb : ∀ p : Addr, p.block < W0.heap.size → W1.cell? p = W0.cell? p := fun p hp => World.cell?_of_block (B1.block _ hp)
  have kf : ∀ p : Addr, p.block < W0.heap.size → W1.frozen? p = W0.frozen? p := fun p hp => World.frozen?_of_block (B1.block _ hp)
  rw [← kb _ (by dsimp only; omega)] at x0
  rw [← kb _ (by dsimp only; omega)] at x1
  rw [← kb _ (by dsimp only; omega)] at x2
  rw [← kb _ (by dsimp only; omega)] at x3
  rw [← kb _ (by dsimp only; omega)] at z0
  rw [← kb _ (by dsimp only; omega)] at z1
  rw [← kb _ (by dsimp only; omega)] at z2
  rw [← kb _ (by dsimp only; omega)] at z3
  rw [← kb _ (by dsimp only; omega)] at z4
  rw [← kb _ (by dsimp only; omega)] at z5
  rw [← kb _ (by dsimp only; omega)] at z6
  rw [← kf _ (by dsimp only; omega)] at f0
  rw [← kf _ (by dsimp only; omega)] at f1
  rw [← kf _ (by dsimp only; omega)] at f2
  rw [← kf _ (by dsimp only; omega)] at f3
  rw [← kf _ (by dsimp only; omega)] at f4
  rw [← kf _ (by dsimp only; omega)] at f5
  rw [← kf _ (by dsimp only; omega)] at f6
  have HB1 := Lib.hid (HB0.out.trans (B1.mono (by omega)))
  have KK := Lib.hid ((B1.block _ (by omega)).trans HK0.out.2)
  clear kf m0 m1 m2 yM yT B1 K1
  clear kb HZ0 zz
  go_wp2_with fail
  all_goals
   exact en_ret KK.out HB1.out (by omega) _ _ _ _ _ _ _ rfl rfl
end Tv
end Go.Proofs.YtpabdmcbahmjnaaGreat
