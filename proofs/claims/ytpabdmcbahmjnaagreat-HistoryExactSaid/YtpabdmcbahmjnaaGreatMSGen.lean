/- The walk of ctriemake.Script: any script with at most three threads of at most three operations, and at most 90 picks. -/
import Derived.Test.YtpabdmcbahmjnaaGreatMSE
import Derived.Deep.RegionLaw
import Derived.Deep.DeepCutAuto
namespace Go.Proofs.YtpabdmcbahmjnaaGreat.Sc
open Go Go.RowKit Go.MapKept
set_option linter.unusedSimpArgs false
set_option linter.unusedVariables false
theorem box_start {w0 w : World} {B : Nat} (hb : Below B w0 w) (hz : B ≤ w.heap.size) (m : Int) : BoxAt B w0 (w.alloc (.cells #[.int .u64 m, .slice none 0 0, .slice none 0 0] 30)) w.heap.size ⟨⟨m, [], []⟩, true, true⟩ (.slice none 0 0) (.slice none 0 0) [] :=
 ⟨hz, (heap_alloc w _).1, World.ownsRow_nil _ _ _ _, rfl, fun i u t hu => by simp at hu, fun i j u v b hu => by simp at hu, World.ownsRow_nil _ _ _ _, hb.alloc hz _, by simp; omega⟩
def ThrOk (ts : List (List OpD)) : Prop := ∀ t ∈ ts, t.length ≤ 3 ∧ ∀ o ∈ t, OpFit o
def genS (m : Int) (ts : List (List OpD)) (ps : List Int) : PS := ⟨⟨m, ts, ps⟩, true, true⟩
def GenRel1 (B : Nat) (w0 : World) (P bt n : Nat) (m : Int) (v6 v7 v8 : Value) (wr : World) : Prop :=
 ∃ (k l : Nat) (ts : List (List OpD)) (hs : List Int) (vt : Value) (us : List Value), v6 = .int .i64 l ∧ l ≤ 6 ∧ v8 = .int .i64 k ∧ k ≤ n ∧ ts.length = k ∧ ThrOk ts ∧ 1 ≤ hs.length ∧ hs.length ≤ 3 + 3 * k ∧
  GenAt B w0 wr P (genS m ts []) vt (.slice none 0 0) us (.slice none 0 0) [] v7 hs bt
def GenRel2 (B : Nat) (w0 : World) (P bt k : Nat) (m : Int) (ts : List (List OpD)) (vt : Value) (us : List Value) (v6 v7 v9 v10 : Value) (wr : World) : Prop :=
 ∃ (j l : Nat) (t : List OpD) (hs : List Int), v6 = .int .i64 l ∧ l ≤ 6 ∧ v10 = .int .i64 j ∧ j ≤ 3 ∧ t.length = j ∧ (∀ o ∈ t, OpFit o) ∧ 1 ≤ hs.length ∧ hs.length ≤ 3 + 3 * k + j ∧
  GenAt B w0 wr P (genS m ts []) vt (.slice none 0 0) us v9 t v7 hs bt
def GenRel3 (B : Nat) (w0 : World) (P bt : Nat) (m : Int) (ts : List (List OpD)) (v12 : Value) (wr : World) : Prop :=
 ∃ (j : Nat) (ps : List Int) (vt vp : Value) (us : List Value), v12 = .int .i64 j ∧ j ≤ 90 ∧ ps.length = j ∧ (∀ p ∈ ps, -9223372036854775808 ≤ p ∧ p ≤ 9223372036854775807) ∧ BoxAt B w0 wr P (genS m ts ps) vt vp us ∧ TapeIs wr B bt
theorem wpList_op {ops : Array Oper} {rest : List Oper} {o : Oper} {a : Act} {Q : Exit → Act → World → Prop} (hgd : o.guard = none) (s x : Operand) (ho : o.op = .call { callee := .builtin .append, args := #[s, x], argTypes := #[66, 66] })
  (B : Nat) (W : World) (u : Value) (n : Nat) (xs : List Value) (hown : W.ownsRow B 68 5 u n xs) (hs : a.eval s = u) (ad : Addr) (hx : a.eval x = .slice (some ad) 1 1) (ys : List Value) (hy : ys.length = 5) (hc : ∀ j v, ys[j]? = some v → W.cell? (ad.add j) = some v) (h1 : ∀ v ∈ ys, v.oneCell' = true) (hB : B ≤ W.heap.size) (hn : n ≤ 1048576)
  (hK : ∀ a' c' w', w'.ownsRow B 68 5 (.slice a' (n + 1) c') (n + 1) (xs ++ ys) → W.grownBy w' u.ownBlock → (∀ b, (Value.slice a' (n + 1) c').ownBlock = some b → u.ownBlock = some b ∨ W.heap.size ≤ b) → wpList Tryz.prog ops Q rest (a.put o.dst (.slice a' (n + 1) c')) w') : wpList Tryz.prog ops Q (o :: rest) a W := by
 refine wpList_plain hgd fun K hK' => ?_
 obtain ⟨v', w', hr, ho', hg, hnew⟩ := run_append_op o.type B W u n xs hown ad ys hy hc h1 hB hn
 obtain ⟨a', c', rfl⟩ := row_form ho'
 unfold Oper.wp execOp
 simp only [ho, resolve, invoke, builtin, Sem.run_bind, Sem.run_pure, Result.andThen_ok, List.map_toArray, List.map_cons, List.map_nil, hs, hx, hr]
 exact hK' _ _ (hK a' c' w' ho' hg hnew)
theorem wpList_one_q {ops : Array Oper} {rest : List Oper} {o : Oper} {a : Act} {Q : Exit → Act → World → Prop} (T e : TypeId) (hT : Tryz.prog.underlying T = some (.slice e)) (z : Value) (by8 : Nat) (hinfo : (Tryz.prog.info? e).map (fun i => (i.zero, i.size, i.bytes)) = some (some z, 1, by8)) (hz : z.cells.size = 1)
  (hgd : o.guard = none) (s x : Operand) (ho : o.op = .call { callee := .builtin .append, args := #[s, x], argTypes := #[T, T] })
  (B : Nat) (w : World) (v : Value) (n : Nat) (xs : List Value) (hs : a.eval s = v) (hown : w.ownsRow B e 1 v n xs) (y : Value) (hy : y.oneCell' = true) (q : Nat) (hx : a.eval x = .slice (some ⟨q, 0, none⟩) 1 1) (hq : w.heap.size = q) (hB : B ≤ w.heap.size) (hm : n + 1 ≤ maxLen) (hlen : (n + 1) * by8 ≤ 140737488355328)
  (h : ∀ a' cap' w', w'.ownsRow B e 1 (.slice a' (n + 1) cap') (n + 1) (xs ++ [y]) → (w.alloc (.cells #[y] e)).grownBy w' v.ownBlock → wpList Tryz.prog ops Q rest (a.put o.dst (.slice a' (n + 1) cap')) w') : wpList Tryz.prog ops Q (o :: rest) a (w.alloc (.cells #[y] e)) := by
 subst hq
 exact wpList_one_new T e hT z by8 hinfo hz hgd s x ho B w v n xs hs hown y hy hx hB hm hlen h
def StopAt (p : Prop) : Prop := p
theorem stopAt {p : Prop} (h : StopAt p) : p := h
theorem wpList_op_new {ops : Array Oper} {rest : List Oper} {o : Oper} {a : Act} {Q : Exit → Act → World → Prop} (hgd : o.guard = none) (s x : Operand) (ho : o.op = .call { callee := .builtin .append, args := #[s, x], argTypes := #[66, 66] })
  (B : Nat) (w : World) (u : Value) (n : Nat) (xs : List Value) (hown : w.ownsRow B 68 5 u n xs) (hs : a.eval s = u) (op : OpD) (q : Nat) (hx : a.eval x = .slice (some ⟨q, 0, none⟩) 1 1) (hq : w.heap.size = q) (hB : B ≤ w.heap.size) (hn : n ≤ 1048576)
  (hK : ∀ a' c' w', w'.ownsRow B 68 5 (.slice a' (n + 1) c') (n + 1) (xs ++ opC op) → (w.alloc (opObj op)).grownBy w' u.ownBlock → (∀ b, (Value.slice a' (n + 1) c').ownBlock = some b → u.ownBlock = some b ∨ (w.alloc (opObj op)).heap.size ≤ b) → wpList Tryz.prog ops Q rest (a.put o.dst (.slice a' (n + 1) c')) w') :
  wpList Tryz.prog ops Q (o :: rest) a (w.alloc (.cells #[.int .i64 op.kind, .int .i64 op.handle, .string op.key, .int .u64 op.value, .int .u64 op.expect] 68)) := by
 subst hq
 refine wpList_op hgd s x ho B (w.alloc (opObj op)) u n xs (hown.alloc _) hs ⟨w.heap.size, 0, none⟩ hx (opC op) rfl ?_ ?_ (by simp; omega) hn hK
 ·intro j v hj
  rw [addr_at, blk_cell (heap_alloc w (opObj op)).1]
  simpa [opC] using hj
 ·intro v hv
  simp only [opC, List.mem_cons, List.not_mem_nil, or_false] at hv
  rcases hv with rfl | rfl | rfl | rfl | rfl <;> rfl
theorem nums_of {w : World} {B : Nat} {g n cap : Nat} {hs : List Int} (h : w.ownsRow B 3 1 (.slice (some ⟨g, 0, none⟩) n cap) n (hs.map (.int .i64))) (hl : hs.length = n) (hb : ∀ z ∈ hs, 0 ≤ z ∧ z ≤ 128) : NumsAt w g n := by
 refine ⟨row_lt h rfl, fun k hk => ?_⟩
 have hk' : k < hs.length := by omega
 refine ⟨hs[k], ?_, hb _ (List.getElem_mem hk')⟩
 have := h.cells (g := g) rfl k (.int .i64 hs[k]) (by simp [hk'])
 rwa [addr_at] at this
theorem gen_start {B : Nat} {w0 w : World} {P : Nat} {m : Int} {bt : Nat} (h : BoxAt B w0 w P (genS m [] []) (.slice none 0 0) (.slice none 0 0) []) (ht : TapeIs w B bt) :
  GenAt B w0 (w.alloc (.cells #[.int .i64 0, .int .i64 0, .int .i64 0] 3)) P (genS m [] []) (.slice none 0 0) (.slice none 0 0) [] (.slice none 0 0) [] (.slice (some ⟨w.heap.size, 0, none⟩) 3 3) [0, 0, 0] bt := by
 have hb : Below w.heap.size w (w.alloc (.cells #[.int .i64 0, .int .i64 0, .int .i64 0] 3)) := (Below.refl _ _).alloc (Nat.le_refl _) _
 refine ⟨h.above hb, World.ownsRow_nil _ _ _ _, fun i u b hu => by simp at hu, ?_, fun z hz => ?_, fun b hb => by simp [Value.ownBlock] at hb, ht.keep (hb.block _ ht.lt) (fun k hk => hb.block k (Nat.lt_of_lt_of_le hk h.size))⟩
 ·exact World.ownsRow_lit w #[.int .i64 0, .int .i64 0, .int .i64 0] 3 h.size (by unfold maxLen; omega) rfl
 ·simp only [List.mem_cons, List.not_mem_nil, or_false] at hz
  rcases hz with rfl | rfl | rfl <;> omega
def GenPost (w : World) (e : Ending) (w' : World) : Prop :=
 ∃ (P : Nat) (m : Int) (ts : List (List OpD)) (ps : List Int) (vt vp : Value) (us : List Value), e = .returned (.agg #[.int .u64 m, vt, vp]) ∧ BoxAt w.heap.size w w' P (genS m ts ps) vt vp us ∧ 0 ≤ m ∧ m ≤ 18446744073709551615 ∧ 1 ≤ ts.length ∧ ts.length ≤ 3 ∧ ThrOk ts ∧ ps.length ≤ 90 ∧ ∀ p ∈ ps, -9223372036854775808 ≤ p ∧ p ≤ 9223372036854775807
def GenMid (B : Nat) (w0 : World) (P bt k j bo : Nat) (m : Int) (ts : List (List OpD)) (vt : Value) (us : List Value) (v9 : Value) (t : List OpD) (o : OpD) (v7 : Value) (wx : World) : Prop :=
 ∃ hs : List Int, 1 ≤ hs.length ∧ hs.length ≤ 3 + 3 * k + j + 1 ∧ GenAt B w0 wx P (genS m ts []) vt (.slice none 0 0) us v9 t v7 hs bt ∧ wx.heap[bo]? = some (opObj o)
theorem GenMid.of {B : Nat} {w0 wx : World} {P bt k j bo : Nat} {m : Int} {ts : List (List OpD)} {vt : Value} {us : List Value} {v9 : Value} {t : List OpD} {o : OpD} {v7 : Value} {hs : List Int} (h1 : 1 ≤ hs.length) (h2 : hs.length ≤ 3 + 3 * k + j) (h : GenAt B w0 wx P (genS m ts []) vt (.slice none 0 0) us v9 t v7 hs bt) (hb : wx.heap[bo]? = some (opObj o)) : GenMid B w0 P bt k j bo m ts vt us v9 t o v7 wx :=
 ⟨hs, h1, by omega, h, hb⟩
theorem GenMid.hand {B : Nat} {w0 w w' : World} {P bt k j bo : Nat} {m : Int} {ts : List (List OpD)} {vt : Value} {us : List Value} {v9 : Value} {t : List OpD} {o : OpD} {v7 v7' : Value} {hs : List Int} (h1 : 1 ≤ hs.length) (h2 : hs.length ≤ 3 + 3 * k + j) (h : GenAt B w0 w P (genS m ts []) vt (.slice none 0 0) us v9 t v7 hs bt) (hb : w.heap[bo]? = some (opObj o)) (z : Int) (hz : 0 ≤ z ∧ z ≤ 128) (ob : Obj) (hg : (w.alloc ob).grownBy w' v7.ownBlock)
  (hown : w'.ownsRow B 3 1 v7' (hs.length + 1) (hs.map (.int .i64) ++ [.int .i64 z])) : GenMid B w0 P bt k j bo m ts vt us v9 t o v7' w' := by
 have hb' : Below w.heap.size w (w.alloc ob) := (Below.refl _ _).alloc (Nat.le_refl _) _
 have hlt : bo < w.heap.size := (Array.getElem?_eq_some_iff.1 hb).1
 refine ⟨hs ++ [z], by simp, by simp; omega, (h.above hb').handle z hz hg hown rfl, ?_⟩
 refine (grown_block hg hlt ?_).trans hb
 exact row_ne h.hand hb (by decide)
theorem GenRel2.step {B : Nat} {w0 w w' : World} {P bt k j bo l : Nat} {m : Int} {ts : List (List OpD)} {vt : Value} {us : List Value} {v9 v9' : Value} {t : List OpD} {o : OpD} {v7 : Value} (h : GenMid B w0 P bt k j bo m ts vt us v9 t o v7 w) (hl : l ≤ 6) (hj : j < 3) (ht : t.length = j) (hok : ∀ o ∈ t, OpFit o) (ho : OpFit o) (ob : Obj) (hg : (w.alloc ob).grownBy w' v9.ownBlock)
  (hown : w'.ownsRow B 68 5 v9' (t.length + 1) (t.flatMap opC ++ opC o)) (hnew : ∀ b, v9'.ownBlock = some b → v9.ownBlock = some b ∨ (w.alloc ob).heap.size ≤ b) (z6 z10 : Int) (h6 : z6 = (l : Int)) (h10 : z10 = ((j + 1 : Nat) : Int)) : GenRel2 B w0 P bt k m ts vt us (.int .i64 z6) v7 v9' (.int .i64 z10) w' := by
 subst h6 h10
 obtain ⟨hs, h1, h2, h3, h4⟩ := h
 have hb' : Below w.heap.size w (w.alloc ob) := (Below.refl _ _).alloc (Nat.le_refl _) _
 refine ⟨j + 1, l, t ++ [o], hs, rfl, hl, rfl, by omega, by simp [ht], ?_, h1, by omega, (h3.above hb').op o hg hown hnew⟩
 intro x hx
 simp only [List.mem_append, List.mem_singleton] at hx
 rcases hx with hx | rfl
 ·exact hok x hx
 ·exact ho
theorem op_cells {w : World} {bo : Nat} {o : OpD} (h : w.heap[bo]? = some (opObj o)) : w.cell? ⟨bo, 0, none⟩ = some (.int .i64 o.kind) ∧ w.cell? ⟨bo, 1, none⟩ = some (.int .i64 o.handle) ∧ w.cell? ⟨bo, 2, none⟩ = some (.string o.key) ∧ w.cell? ⟨bo, 3, none⟩ = some (.int .u64 o.value) ∧ w.cell? ⟨bo, 4, none⟩ = some (.int .u64 o.expect) :=
 ⟨blk_cell h 0, blk_cell h 1, blk_cell h 2, blk_cell h 3, blk_cell h 4⟩
theorem BoxAt.rebase {B B' : Nat} {w0 w0' w : World} {P : Nat} {st : PS} {vt vp : Value} {us : List Value} (h : BoxAt B w0 w P st vt vp us) (hB : B' ≤ B) (hb : Below B' w0' w) : BoxAt B' w0' w P st vt vp us :=
 ⟨Nat.le_trans hB h.base, h.par, row_le h.thr hB, h.hus, fun i u t hu ht => row_le (h.ops i u t hu ht) hB, h.dist, row_le h.pks hB, hb, Nat.le_trans hB h.size⟩
theorem BoxAt.result {w wr w' : World} {P : Nat} {st : PS} {vt vp : Value} {us : List Value} {o : Obj} (h : BoxAt (w.heap.size + 1) (w.alloc o) wr P st vt vp us) (hk : ∀ k, k ≠ w.heap.size → w'.heap[k]? = wr.heap[k]?) (hz : w'.heap.size = wr.heap.size) (ho : w'.os = wr.os) (ht : w'.tape = wr.tape) (hp : w'.output = wr.output) : BoxAt w.heap.size w w' P st vt vp us := by
 refine (h.over (fun k hk1 _ => hk k (by omega)) (by omega)).rebase (by omega) ?_
 have hb := h.below
 have hs := h.size
 exact ⟨ho.trans hb.os, ht.trans hb.tape, hp.trans hb.output, by omega, fun k hk1 => (hk k (by omega)).trans ((hb.block k (by omega)).trans (Below.heap_alloc _ _ _ hk1))⟩
theorem set3 {w : World} {b k : Nat} (hk : k ≠ b) (x y z : Value) : (((w.setCell ⟨b, 0, none⟩ x).setCell ⟨b, 1, none⟩ y).setCell ⟨b, 2, none⟩ z).heap[k]? = w.heap[k]? :=
 (Below.heap_setCell _ _ _ k hk).trans ((Below.heap_setCell _ _ _ k hk).trans (Below.heap_setCell _ _ _ k hk))
theorem BoxAt.done {w wr : World} {P : Nat} {st : PS} {vt vp : Value} {us : List Value} {o : Obj} (h : BoxAt (w.heap.size + 1) (w.alloc o) wr P st vt vp us) (x y z : Value) : BoxAt w.heap.size w (((wr.setCell ⟨w.heap.size, 0, none⟩ x).setCell ⟨w.heap.size, 1, none⟩ y).setCell ⟨w.heap.size, 2, none⟩ z) P st vt vp us :=
 h.result (fun k hk => set3 (w := wr) hk x y z) (by simp [World.setCell]) rfl rfl rfl
structure PickPost (B : Nat) (w0 : World) (P : Nat) (m : Int) (ts : List (List OpD)) (ps : List Int) (p : Int) (vt : Value) (ap : Option Addr) (cp : Nat) (us : List Value) (bt : Nat) (v' : Value) (w' : World) : Prop where
 cell : w'.cell? ⟨P, 2, none⟩ = some (.slice ap ps.length cp)
 frz : w'.frozen? ⟨P, 2, none⟩ = false
 lt : P < w'.heap.size
 box : BoxAt B w0 (w'.setCell ⟨P, 2, none⟩ v') P (genS m ts (ps ++ [p])) vt v' us
 tape : TapeIs (w'.setCell ⟨P, 2, none⟩ v') B bt
theorem one_at {w : World} {j : Nat} {v y : Value} {e : TypeId} (hj : [y][j]? = some v) : (w.alloc (.cells #[y] e)).cell? ((⟨w.heap.size, 0, none⟩ : Addr).add j) = some v := by
 rw [addr_at, blk_cell (heap_alloc w _).1]
 simpa using hj
theorem one_ok {x : Int} {v : Value} (hv : v ∈ [Value.int .i64 x]) : v.oneCell' = true := by
 simp only [List.mem_singleton] at hv
 subst hv
 rfl
theorem step_pick {ops : Array Oper} {o : Oper} {a : Act} {K : Act → World → Prop} {Q : Exit → Act → World → Prop} {E : Prop} (hgd : o.guard = none) (s x : Operand) (ho : o.op = .call { callee := .builtin .append, args := #[s, x], argTypes := #[22, 22] })
  {B : Nat} {w0 w : World} {P : Nat} {m : Int} {ts : List (List OpD)} {ps : List Int} {vt : Value} {ap : Option Addr} {cp : Nat} {us : List Value} {bt : Nat} (H : BoxAt B w0 w P (genS m ts ps) vt (.slice ap ps.length cp) us) (T : TapeIs w B bt) (p : Int) (hs : a.eval s = .slice ap ps.length cp) (hx : a.eval x = .slice (some ⟨w.heap.size, 0, none⟩) 1 1) (hn : ps.length ≤ 1000)
  (hK : ∀ a' c' w', PickPost B w0 P m ts ps p vt ap cp us bt (.slice a' (ps.length + 1) c') w' → K (a.put o.dst (.slice a' (ps.length + 1) c')) w') : if Region.wanted o (yielded ops a.tmps) = true then Oper.wp Tryz.prog o a (w.alloc (.cells #[.int .i64 p] 3)) K Q else E := by
 refine step_int hgd s x ho B _ _ ps.length (ps.map (.int .i64)) (H.pks.alloc _) hs ⟨w.heap.size, 0, none⟩ 1 hx [.int .i64 p] rfl (fun j v hj => one_at hj) (fun v hv => one_ok hv) (Nat.le_trans H.size (by simp)) (by omega) ?_
 intro a' c' w' ho' hg
 refine hK a' c' w' ?_
 have hP := grown_block hg H.lt (row_ne H.pks H.par (by decide))
 have t6 := tape_row (T.keep (Below.heap_alloc _ _ _ T.lt) (fun k hk => Below.heap_alloc _ _ _ (Nat.lt_of_lt_of_le hk H.size))) (H.pks.alloc (.cells #[.int .i64 p] 3)) (by decide) (Nat.le_refl _) (Nat.le_trans H.size (by simp)) hg
 exact ⟨(World.cell?_of_block (a := ⟨P, 2, none⟩) hP).trans (H.cell 2), (World.frozen?_of_block (a := ⟨P, 2, none⟩) hP).trans (blk_frozen H.par 2), Nat.lt_of_lt_of_le H.lt (grown_size hg), H.pick _ hg p ho', t6.setCell H.base (tape_ne t6 (hP.trans H.par) (by decide)) _⟩
theorem hand_none {B : Nat} {w0 w : World} {P : Nat} {m : Int} {ts : List (List OpD)} {vt : Value} {us : List Value} {v9 : Value} {t : List OpD} {v7 : Value} {hs : List Int} {bt : Nat} (h : GenAt B w0 w P (genS m ts []) vt (.slice none 0 0) us v9 t v7 hs bt) : w.cell? ⟨P, 1, none⟩ = some vt ∧ w.frozen? ⟨P, 1, none⟩ = false ∧ P < w.heap.size :=
 ⟨h.box.cell 1, blk_frozen h.box.par 1, h.box.lt⟩
theorem thr_ok {ts : List (List OpD)} {t : List OpD} (h : ThrOk ts) (hl : t.length ≤ 3) (ho : ∀ o ∈ t, OpFit o) : ThrOk (ts ++ [t]) := by
 intro x hx
 simp only [List.mem_append, List.mem_singleton] at hx
 rcases hx with hx | rfl
 ·exact h x hx
 ·exact ⟨hl, ho⟩
set_option maxRecDepth 100000 in
set_option maxHeartbeats 8000000 in
theorem gen_any (w : World) (A : Option Addr) (n c : Nat) (hi : IntsAt w A n) : Calls Tryz.prog 8 #[.slice A n c] w (GenPost w) := by
 have TM := Lib.hid (TapeIs.made (w := w.alloc boxO) (B := w.heap.size + 1) (A := A) (n := n) (c := c) (by simp) hi.1 (fun h0 => by
  obtain ⟨b, off, hA, hb, hc⟩ := hi.2 h0
  exact ⟨b, off, hA, by omega, fun k hk => by
   obtain ⟨z, hz, hz2⟩ := hc k hk
   exact ⟨z, (World.cell?_of_block (a := ⟨b, off + k, none⟩) (Below.heap_alloc w boxO b hb)).trans hz, hz2⟩⟩))
 rw [show (w.alloc boxO).heap.size = w.heap.size + 1 by simp] at TM
 clear hi
 go_enter Tryz.func8, Tryz.ntmps8
 go_wp2_with fail
 refine (tnew_any _ _ _ _).mono ?_
 rintro e w1 ⟨rfl, rfl⟩
 go_wp2_with fail
 refine (tmask_any _ (w.heap.size + 1) (w.heap.size + 1) TM.out).mono ?_
 rintro e w2 ⟨⟨m, m0, m1, rfl⟩, ht2, ho2⟩
 have hb2 : Below (w.heap.size + 1) (w.alloc boxO) w2 := ((Below.refl _ (w.alloc boxO)).alloc (by simp) _).trans (ho2.below (by simp) (fun i hi => by rw [hi]; omega))
 have hz2 : w.heap.size + 1 ≤ w2.heap.size := Nat.le_of_lt ht2.lt
 have BX := Lib.hid (box_start hb2 hz2 m)
 have T3 := Lib.hid (ht2.keep (w' := w2.alloc (.cells #[.int .u64 m, .slice none 0 0, .slice none 0 0] 30)) (Below.heap_alloc _ _ _ ht2.lt) (fun k hk => Below.heap_alloc _ _ _ (by omega)))
 clear ht2 ho2 hb2 TM
 go_wp2_with fail
 refine (tnext_any _ (w.heap.size + 1) (w.heap.size + 1) 3 T3.out (by omega) (by omega)).mono ?_
 rintro e w3 ⟨⟨r, r0, r1, rfl⟩, ht3, ho3⟩
 obtain ⟨r, rfl⟩ := Int.eq_ofNat_of_zero_le r0
 have BX3 := BX.out.tape T3.out (Nat.le_refl _) ho3
 have G0 := Lib.hid (gen_start BX3 ht3)
 obtain ⟨n1, hn1⟩ : ∃ n1 : Nat, n1 = 1 + r := ⟨_, rfl⟩
 have hn2 : (1 : Int) + (r : Int) = (n1 : Int) := by omega
 have hn3 : 1 ≤ n1 := by omega
 have hn4 : n1 ≤ 3 := by omega
 generalize hP : w2.heap.size = P at BX BX3 G0 ⊢
 have HP := Lib.hid hP
 clear ht3 ho3 BX3 T3 BX r0 hP hn1
 go_wp2_with fail
 clear hn2
 go_loopw [6, 7, 8] (fun v6 v7 v8 wr => GenRel1 (w.heap.size + 1) (w.alloc boxO) P (w.heap.size + 1) n1 m v6 v7 v8 wr) (fun _ _ v8 _ => n1 - (intOf v8).toNat)
 case atStart => exact ⟨0, 6, [], [0, 0, 0], _, _, rfl, by omega, rfl, by omega, rfl, fun t ht => by simp at ht, by simp, by simp, G0.out⟩
 case round =>
  obtain ⟨k, l, ts, hs, vt, us, rfl, hl, rfl, hk, hts, hok, hh1, hh2, hG⟩ := hrel
  have G1 := Lib.hid hG
  have TS := Lib.hid hts
  have OK := Lib.hid hok
  clear hG hts hok G0
  by_cases hlt : k < n1
  ·go_wp2_with fail
   go_loopw [6, 7, 9, 10] (fun v6 v7 v9 v10 wr => GenRel2 (w.heap.size + 1) (w.alloc boxO) P (w.heap.size + 1) k m ts vt us v6 v7 v9 v10 wr) (fun _ _ _ v10 _ => 3 - (intOf v10).toNat)
   case atStart => exact ⟨0, l, [], hs, rfl, hl, rfl, by omega, rfl, by simp, hh1, by omega, G1.out⟩
   case round =>
    obtain ⟨j, l2, t, hs2, rfl, hl2, rfl, hj, ht, hop, hh3, hh4, hG2⟩ := hrel
    obtain ⟨g7, c7, hv7⟩ := row_some hG2.hand (by omega)
    subst hv7
    have g7lt := row_lt hG2.hand (g := g7) rfl
    have hn7 : hs2.length ≤ 14 := by omega
    have NM := Lib.hid (nums_of hG2.hand rfl hG2.hbd)
    have hgb : g7 ≠ w.heap.size + 1 := fun e => by
     obtain ⟨A', n', c', i', hb', _⟩ := hG2.tape
     exact row_ne hG2.hand hb' (by decide) (by rw [← e]; rfl)
    have G2 := Lib.hid hG2
    have HT := Lib.hid ht
    have HOP := Lib.hid hop
    clear hG2 ht hop g7lt
    by_cases hcont : j < 3 ∧ 0 < l2
    ·obtain ⟨hj3, hl0⟩ := hcont
     ·go_wp2_with fail
      refine (top_any _ (w.heap.size + 1) (w.heap.size + 1) g7 _ c7 G2.out.tape hgb (by omega) (by omega) NM.out).mono ?_
      rintro e w4 ⟨⟨o, hok, he⟩, ht4, ho4⟩
      have he' : e = .returned (.agg #[.int .i64 o.kind, .int .i64 o.handle, .string o.key, .int .u64 o.value, .int .u64 o.expect]) := he
      clear he
      subst he'
      have G4 := (G2.out.call ho4 ht4).above (w' := w4.alloc (.cells #[.int .i64 o.kind, .int .i64 o.handle, .string o.key, .int .u64 o.value, .int .u64 o.expect] 68)) ((Below.refl _ _).alloc (Nat.le_refl _) _)
      have G5 := Lib.hid G4
      have OB5 : Hid ((w4.alloc (.cells #[.int .i64 o.kind, .int .i64 o.handle, .string o.key, .int .u64 o.value, .int .u64 o.expect] 68)).heap[w4.heap.size]? = some (opObj o)) := (heap_alloc w4 _).1
      have OOK := Lib.hid hok
      have okd : o.kind ≤ 9223372036854775807 := hok.1.k1
      have hmx : maxLen = 9223372036854775807 := by decide
      have M5 := Lib.hid (GenMid.of (k := k) (j := j) hh3 hh4 G5.out OB5.out)
      clear G4 hok ht4 ho4 NM
      by_cases hc : (8 ≤ o.kind ∧ o.kind ≤ 9) ∨ o.kind = 12
      ·have hc2 : (8 ≤ o.kind ∧ o.kind ≤ 9 ∧ (decide (o.kind ≤ 9)) = true) ∨ (8 ≤ o.kind ∧ 9 < o.kind ∧ (decide (o.kind ≤ 9)) = false ∧ (o.kind == 12) = true) := by
        rcases hc with h | h
        ·exact Or.inl ⟨h.1, h.2, decide_eq_true h.2⟩
        ·exact Or.inr ⟨by omega, by omega, decide_eq_false (by omega), by simp [h]⟩
       clear hc
       rcases hc2 with ⟨h8, h9, d9⟩ | ⟨h8, h9, d9, e12⟩
       all_goals
        go_wp2_with (at_builtin; refine stopAt ?_)
        unfold StopAt
        refine wpList_one_q 22 3 Tryz.underlying22 _ 8 int_info rfl rfl _ _ rfl (w.heap.size + 1) _ _ _ _ rfl G5.out.hand _ rfl _ rfl (by simp) G5.out.box.size (by omega) (by omega) ?_
        intro a3 c3 w3 ho3 hg3
        have M3 := Lib.hid (GenMid.hand (k := k) (j := j) hh3 hh4 G5.out OB5.out _ (by omega) _ hg3 ho3)
        obtain ⟨hs3, _, _, g3, b3⟩ := M3.out
        have G3 := Lib.hid g3
        obtain ⟨y0, y1, y2, y3, y4⟩ := op_cells b3
        clear ho3 hg3 g3 b3
        go_wp2_with (at_builtin; refine stopAt ?_)
        unfold StopAt
        refine wpList_op_new rfl _ _ rfl (w.heap.size + 1) _ _ _ _ G3.out.row rfl o _ rfl (by rfl) G3.out.box.size (by rw [HT.out]; omega) ?_
        intro a6 c6 w6 ho6 hg6 hn6
        have R6 := Lib.hid (fun z6 z10 h6 h10 => GenRel2.step (l := l2 - 1) M3.out (by omega) hj3 HT.out HOP.out OOK.out _ hg6 ho6 hn6 z6 z10 h6 h10)
        clear ho6 hg6 hn6
        go_wp2_with fail
        exact ⟨R6.out _ _ (by omega) (by omega), by simp [intOf]; omega⟩
      ·have hc2 : ((decide (8 ≤ o.kind)) = false ∧ o.kind < 8 ∧ (o.kind == 12) = false) ∨ (8 ≤ o.kind ∧ 9 < o.kind ∧ (decide (o.kind ≤ 9)) = false ∧ (o.kind == 12) = false) := by
        by_cases h8 : 8 ≤ o.kind
        ·exact Or.inr ⟨h8, by omega, decide_eq_false (by omega), by simp; omega⟩
        ·exact Or.inl ⟨decide_eq_false h8, by omega, by simp; omega⟩
       clear hc
       rcases hc2 with ⟨d8, h8, e12⟩ | ⟨h8, h9, d9, e12⟩
       all_goals
        go_wp2_with (at_builtin; refine stopAt ?_)
        unfold StopAt
        refine wpList_op_new rfl _ _ rfl (w.heap.size + 1) _ _ _ _ G5.out.row rfl o _ rfl (by simp) G5.out.box.size (by rw [HT.out]; omega) ?_
        intro a6 c6 w6 ho6 hg6 hn6
        have R6 := Lib.hid (fun z6 z10 h6 h10 => GenRel2.step (l := l2 - 1) M5.out (by omega) hj3 HT.out HOP.out OOK.out _ hg6 ho6 hn6 z6 z10 h6 h10)
        clear ho6 hg6 hn6
        go_wp2_with fail
        exact ⟨R6.out _ _ (by omega) (by omega), by simp [intOf]; omega⟩
    ·have hex : ((decide ((j : Int) < 3)) = false ∧ 3 ≤ j) ∨ (j < 3 ∧ (decide ((0 : Int) < (l2 : Int))) = false ∧ l2 = 0) := by
      by_cases h3 : j < 3
      ·exact Or.inr ⟨h3, decide_eq_false (by omega), by omega⟩
      ·exact Or.inl ⟨decide_eq_false (by omega), by omega⟩
     clear hcont NM
     obtain ⟨a9, c9, hv9⟩ := row_form G2.out.row
     subst hv9
     obtain ⟨av, cv, hvv⟩ := row_form G2.out.box.thr
     subst hvv
     obtain ⟨y1, f1, hz1⟩ := hand_none G2.out
     have hul : us.length = k := by rw [G2.out.box.hus]; exact TS.out
     have HUL := Lib.hid hul
     clear hul
     rcases hex with ⟨d3, h3⟩ | ⟨h3, d0, h0⟩
     all_goals
      go_wp2_with (at_builtin; refine stopAt ?_)
      unfold StopAt
      refine wpList_one_q 28 66 Tryz.underlying28 _ 24 ops_info rfl rfl _ _ rfl (w.heap.size + 1) _ _ _ _ rfl G2.out.box.thr _ rfl _ rfl rfl G2.out.box.size (by rw [HUL.out]; unfold maxLen; omega) (by rw [HUL.out]; omega) ?_
      intro a6 c6 w6 ho6 hg6
      have G6 := Lib.hid (G2.out.thread _ hg6 ho6)
      have z1 := (World.cell?_of_block (a := ⟨P, 1, none⟩) (grown_block hg6 hz1 (row_ne G2.out.box.thr G2.out.box.par (by decide)))).trans y1
      have zf := (World.frozen?_of_block (a := ⟨P, 1, none⟩) (grown_block hg6 hz1 (row_ne G2.out.box.thr G2.out.box.par (by decide)))).trans f1
      clear ho6 hg6
      go_wp2_with fail
      refine ⟨⟨k + 1, l2, ts ++ [t], hs2, _, _, (by first | rfl | simp [h0]), hl2, by go_num, by omega, by rw [List.length_append, TS.out, List.length_singleton], thr_ok OK.out (by rw [HT.out]; omega) HOP.out, hh3, by omega, G6.out⟩, by simp [intOf]; omega⟩
  ·obtain rfl : k = n1 := by omega
   go_wp2_with fail
   go_loopw [12] (fun v12 wr => GenRel3 (w.heap.size + 1) (w.alloc boxO) P (w.heap.size + 1) m ts v12 wr) (fun v12 _ => 90 - (intOf v12).toNat)
   case atStart => exact ⟨0, [], _, _, _, rfl, by omega, rfl, by simp, G1.out.box, G1.out.tape⟩
   case round =>
    obtain ⟨j, ps, vt3, vp3, us3, rfl, hj, hps, hpb, hB3, hT3⟩ := hrel
    obtain ⟨av, cv, hvv⟩ := row_form hB3.thr
    subst hvv
    obtain ⟨ap, cp, hvp⟩ := row_form hB3.pks
    subst hvp
    have H3 := Lib.hid hB3
    have T3 := Lib.hid hT3
    have PS := Lib.hid hps
    have PB := Lib.hid hpb
    have y0 : wr.cell? ⟨P, 0, none⟩ = some (.int .u64 m) := hB3.cell 0
    have y1 : wr.cell? ⟨P, 1, none⟩ = some (.slice av us3.length cv) := hB3.cell 1
    have y2 : wr.cell? ⟨P, 2, none⟩ = some (.slice ap ps.length cp) := hB3.cell 2
    have f2 : wr.frozen? ⟨P, 2, none⟩ = false := blk_frozen hB3.par 2
    have hzP := hB3.lt
    have hBo : wr.heap[w.heap.size]? = some boxO := (hB3.below.block _ (by omega)).trans (heap_alloc w boxO).1
    have x0 : wr.cell? ⟨w.heap.size, 0, none⟩ = some (.int .u64 0) := blk_cell hBo 0
    have x1 : wr.cell? ⟨w.heap.size, 1, none⟩ = some (.slice none 0 0) := blk_cell hBo 1
    have x2 : wr.cell? ⟨w.heap.size, 2, none⟩ = some (.slice none 0 0) := blk_cell hBo 2
    have g0 : wr.frozen? ⟨w.heap.size, 0, none⟩ = false := blk_frozen hBo 0
    have g1 : wr.frozen? ⟨w.heap.size, 1, none⟩ = false := blk_frozen hBo 1
    have g2 : wr.frozen? ⟨w.heap.size, 2, none⟩ = false := blk_frozen hBo 2
    clear hB3 hT3 hps hpb hBo
    by_cases h90 : j < 90
    ·go_wp2_with fail
     refine (tleft_any _ (w.heap.size + 1) (w.heap.size + 1) T3.out).mono ?_
     rintro e w4 ⟨⟨b, rfl⟩, hf4⟩
     have b4 := hf4.below wr.heap.size
     have H4 := Lib.hid (H3.out.above b4)
     have T4 := Lib.hid (T3.out.keep (b4.block _ T3.out.lt) (fun k hk => b4.block k (Nat.lt_of_lt_of_le hk H3.out.size)))
     clear b4 hf4 y0 y1 y2 f2 hzP x0 x1 x2 g0 g1 g2 H3 T3
     have y0 : w4.cell? ⟨P, 0, none⟩ = some (.int .u64 m) := H4.out.cell 0
     have y1 : w4.cell? ⟨P, 1, none⟩ = some (.slice av us3.length cv) := H4.out.cell 1
     have y2 : w4.cell? ⟨P, 2, none⟩ = some (.slice ap ps.length cp) := H4.out.cell 2
     have f2 : w4.frozen? ⟨P, 2, none⟩ = false := blk_frozen H4.out.par 2
     have hzP := H4.out.lt
     have hBo : w4.heap[w.heap.size]? = some boxO := (H4.out.below.block _ (by omega)).trans (heap_alloc w boxO).1
     have x0 : w4.cell? ⟨w.heap.size, 0, none⟩ = some (.int .u64 0) := blk_cell hBo 0
     have x1 : w4.cell? ⟨w.heap.size, 1, none⟩ = some (.slice none 0 0) := blk_cell hBo 1
     have x2 : w4.cell? ⟨w.heap.size, 2, none⟩ = some (.slice none 0 0) := blk_cell hBo 2
     have g0 : w4.frozen? ⟨w.heap.size, 0, none⟩ = false := blk_frozen hBo 0
     have g1 : w4.frozen? ⟨w.heap.size, 1, none⟩ = false := blk_frozen hBo 1
     have g2 : w4.frozen? ⟨w.heap.size, 2, none⟩ = false := blk_frozen hBo 2
     clear hBo
     cases b
     ·go_wp2_with fail
      refine bodyPost_ret (v := .agg #[.int .u64 m, .slice av us3.length cv, .slice ap ps.length cp]) (by simp [results, Tryz.results8, go_sem, x0, x1, x2]) rfl ⟨P, m, ts, ps, _, _, us3, rfl, H4.out.done _ _ _, m0, m1, by rw [TS.out]; omega, by rw [TS.out]; omega, OK.out, by rw [PS.out]; omega, PB.out⟩
     ·clear x0 x1 x2 g0 g1 g2
      go_wp2_with fail
      have H4d := Lib.hid (H4.out.above (w' := w4.drew) ((Below.refl _ _).drew))
      have hw1 : IntKind.i64.wrap ((k : Int) + 1) = (k : Int) + 1 := IntWalk.i64_in _ (by omega)
      have T4d : Hid (TapeIs w4.drew (w.heap.size + 1) (w.heap.size + 1)) := T4.out.keep rfl (fun _ _ => rfl)
      go_region_law (first | ((have hx := T5); clear hx; (refine step_pick rfl _ _ rfl H5.out T5.out x rfl rfl ?hn ?_); (case hn => (rw [PS.out]; omega)); rintro a6 c6 w6 ⟨v2, vf, hz6, hb6, ht6⟩; (have B6 := Lib.hid hb6); (have T6 := Lib.hid ht6); clear hb6 ht6) | (go_simp; go_at_call 25; (refine (tnext_any _ (w.heap.size + 1) (w.heap.size + 1) _ T4d.out ?h1 ?h2).mono ?_); (case h1 => (first | omega | (rw [hw1]; omega))); (case h2 => (first | omega | (rw [hw1]; omega))); rintro e w5 ⟨⟨x, x5, x6, rfl⟩, ht5, ho5⟩; (have H5 := Lib.hid (H4d.out.tape T4d.out (Nat.le_refl _) ho5)); (have T5 := Lib.hid ht5); (have z2 : w5.cell? ⟨P, 2, none⟩ = some (.slice ap ps.length cp) := H5.out.cell 2); (have zf : w5.frozen? ⟨P, 2, none⟩ = false := blk_frozen H5.out.par 2); (have hz5 := H5.out.lt); clear ht5 ho5))
      all_goals
       go_wp2_with fail
       refine ⟨⟨j + 1, ps ++ [x], _, _, _, by go_num, by omega, by rw [List.length_append, PS.out]; rfl, ?_, B6.out, T6.out⟩, by simp [intOf]; omega⟩
       intro p hp
       simp only [List.mem_append, List.mem_singleton] at hp
       rcases hp with hp | rfl
       ·exact PB.out p hp
       ·(first | omega | (rw [hw1] at x6; omega))
    ·have d90 : (decide ((j : Int) < 90)) = false := decide_eq_false (by omega)
     go_wp2_with fail
     refine bodyPost_ret (v := .agg #[.int .u64 m, .slice av us3.length cv, .slice ap ps.length cp]) (by simp [results, Tryz.results8, go_sem, x0, x1, x2]) rfl ⟨P, m, ts, ps, _, _, us3, rfl, H3.out.done _ _ _, m0, m1, by rw [TS.out]; omega, by rw [TS.out]; omega, OK.out, by rw [PS.out]; omega, PB.out⟩
end Go.Proofs.YtpabdmcbahmjnaaGreat.Sc
