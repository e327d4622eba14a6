/- Package linz' search: the memory of failed sets; sets as numbers; what a search finds, plain. No walk in sight. Package linz' search: what stands around a call of from; lists that share their room. No walk in sight. -/
import Derived.Test.YtbmoehndnbbhcaaGreatDoorZNw
import Derived.Test.YtbmoehndnbbhcaaGreatDoorZYb
import Derived.Test.YtbmoehndnbbhcaaGreatDoorZV
import Derived.Test.YtbmoehndnbbhcaaGreatDoorMLast
import Derived.Test.YtbmoehndnbbhcaaGreatDoorZX
namespace Go.Proofs.YtbmoehndnbbhcaaGreatDoor
set_option linter.unusedVariables false
set_option linter.unusedSimpArgs false
open Go Go.RowKit Go.WideMaps Go.WideShapes Go.MapKept
def memV (x : Nat × ByteArray) : Value := .agg #[.int .u32 x.1, .string x.2]
def MemFit (x : Nat × ByteArray) : Prop := x.1 < 4294967296 ∧ x.2.size ≤ maxLen
theorem wf_u32 {n : Nat} (h : n < 4294967296) : (Lit.int .u32 (n : Int)).wf = true := by
  simp [Lit.wf, IntKind.min, IntKind.max, IntKind.signed, IntKind.bits]
  omega
theorem mem_types : Tryz.prog.types.size = (Tryz.prog.types.size - 5) + 1 + 1 + 1 + 1 + 1 := by kernel_rfl
theorem mem_keyType : Tryz.prog.keyType 95 = true := by kernel_rfl
theorem memT_cells : Tryz.prog.cellsOf 95 = 2 := by kernel_rfl
theorem u32_cells : Tryz.prog.cellsOf 54 = 1 := by kernel_rfl
theorem mem_lit (x : Nat × ByteArray) (h : MemFit x) : ∃ l, Go.keyOf Tryz.prog 95 (memV x) = some l := by
  have w0 := wf_u32 h.1
  have w1 := h.2
  unfold memV Go.keyOf
  simp only [Tryz.underlying95]
  rw [if_pos (by simp [mem_keyType, Value.formed, Tryz.underlying95, memT_cells]), mem_types]
  generalize Tryz.prog.types.size - 5 = D
  unfold Program.keyLits
  simp only [Tryz.underlying95, Value.cells]
  rw [if_pos ⟨by rw [memT_cells]; rfl, by kernel_rfl⟩]
  simp only [List.mapM_cons, List.mapM_nil, u32_cells, str_cells, List.drop_zero, List.drop_succ_cons, List.take_succ_cons, List.take_zero, kl_int Tryz.underlying54 _ w0, kl_str Tryz.underlying9 _ _ w1]
  simp
theorem memKey : KeyOk Tryz.prog 95 memV MemFit where
  law := deep_law_gate (by kernel_rfl) (of_decide_eq_true (by kernel_rfl)) (of_decide_eq_true (by kernel_rfl)) mem_keyType (by kernel_rfl)
  lit := mem_lit
  inj := fun x y h => by
    obtain ⟨a0, a1⟩ := x
    obtain ⟨b0, b1⟩ := y
    simp only [memV, Value.agg.injEq, Array.mk.injEq, List.cons.injEq, Value.int.injEq, Value.string.injEq, true_and, and_true, Int.natCast_inj] at h
    obtain ⟨rfl, rfl⟩ := h
    rfl
/-- the failed sets in memory; each is dead -/
def MemoW (D : Nat → Prop) (w : World) (fm : Nat) : Prop := ∃ L : List ((Nat × ByteArray) × Bool), MapW w fm memV Value.bool MemFit L ∧ ∀ p ∈ L, D p.1.1
theorem MemoW.made (D : Nat → Prop) {w : World} {fm : Nat} (h : w.heap[fm]? = some (.map #[] 0)) : MemoW D w fm := ⟨[], ⟨#[], 0, h, stamped_empty _, by simp, by simp⟩, by simp⟩
theorem MemoW.lt {D : Nat → Prop} {w : World} {fm : Nat} (h : MemoW D w fm) : fm < w.heap.size := by
  obtain ⟨L, h1, _⟩ := h
  exact MapW.lt h1
theorem MemoW.of_block {D : Nat → Prop} {w w' : World} {fm : Nat} (h : MemoW D w fm) (hb : w'.heap[fm]? = w.heap[fm]?) : MemoW D w' fm := by
  obtain ⟨L, h1, h2⟩ := h
  exact ⟨L, MapW.of_block h1 hb, h2⟩
theorem MemoW.look {D : Nat → Prop} {w : World} {fm : Nat} (h : MemoW D w fm) (S : Nat) (str : ByteArray) (hf : MemFit (S, str)) :
    ∃ b : Bool, (∀ W, W.heap[fm]? = w.heap[fm]? → (Instr.lookup 86 (.map (some fm)) (.agg #[.int .u32 S, .string str]) false).run Tryz.prog W = .ok (.bool b) W) ∧ (b = true → D S) := by
  obtain ⟨L, h1, h2⟩ := h
  have hl := fun (W : World) (hW : W.heap[fm]? = w.heap[fm]?) => MapW.lookup memKey Tryz.underlying86 (zero_bool W) (MapW.of_block h1 hW) (S, str) hf false
  unfold memV at hl
  cases ha : alook L (S, str) with
  | none => exact ⟨false, fun W hW => by rw [hl W hW, ha]; rfl, by simp⟩
  | some b => exact ⟨b, fun W hW => by rw [hl W hW, ha]; rfl, fun _ => h2 _ (alook_mem ha)⟩
theorem MemoW.add {D : Nat → Prop} {w : World} {fm : Nat} (h : MemoW D w fm) (S : Nat) (str : ByteArray) (hf : MemFit (S, str)) (hD : D S) :
    ∃ w', (Instr.mapUpdate 86 (.map (some fm)) (.agg #[.int .u32 S, .string str]) (.bool true)).run Tryz.prog w = .ok () w' ∧ MemoW D w' fm ∧ Turned fm w w' := by
  obtain ⟨L, h1, h2⟩ := h
  obtain ⟨o, h3, h4⟩ := MapW.update memKey Tryz.underlying86 h1 (S, str) hf true
  refine ⟨_, h3, ⟨_, h4, fun p hp => ?_⟩, Turned.mk' fm o⟩
  rcases aset_mem hp with rfl | hp
  · exact hD
  · exact h2 p hp
theorem quiet_resne {o : Oper} {a : Act} {C : World → Prop} {W : World} {r s : ResF} (p q : Operand) (ho : o.op = .binOp .neq 45 p q 45) (hp : a.eval p = resV r) (hq : a.eval q = resV s) (hr : r.Fit) (hs : s.Fit) : o.quietAt Tryz.prog a C W (.bool (!decide (r = s))) := by
  unfold Oper.quietAt execOp
  have e := run_res W hr hs
  unfold resV at hp hq e
  simp only [ho, hp, hq, run_guardR, binOp, Sem.run_bind, Sem.run_pure, Result.andThen_ok, e]
  exact ⟨rfl, rfl⟩
/-- bit i of a set -/
def bitP (S i : Nat) : Bool := S / 2 ^ i % 2 == 1
theorem and_bit (S i : Nat) (hS : S < 4294967296) : bits .and .u32 ((S : Int) / 2 ^ i) 1 = ((S / 2 ^ i % 2 : Nat) : Int) := by
  have h0 : ((S : Int) / 2 ^ i) = ((S / 2 ^ i : Nat) : Int) := by simp
  rw [h0]
  have hq : S / 2 ^ i < 4294967296 := Nat.lt_of_le_of_lt (Nat.div_le_self _ _) hS
  generalize S / 2 ^ i = q at *
  have h1 : (BitVec.ofInt 32 (q : Int)).toNat = q := by
    rw [BitVec.ofInt_natCast, BitVec.toNat_ofNat]; exact Nat.mod_eq_of_lt (by omega)
  show IntKind.u32.wrap ((BitVec.ofInt 32 (q : Int) &&& BitVec.ofInt 32 (1 : Int)).toNat : Int) = _
  rw [BitVec.toNat_and, h1, show (BitVec.ofInt 32 (1 : Int)).toNat = 1 from rfl, Nat.and_one_is_mod, IntKind.wrap_u32]
  omega
theorem or_grows {S i : Nat} (h : bitP S i = false) : S < S ||| 2 ^ i := by
  have h1 : S ≤ S ||| 2 ^ i := Nat.left_le_or
  rcases Nat.lt_or_eq_of_le h1 with h2 | h2
  · exact h2
  · exfalso
    have h3 : (S ||| 2 ^ i).testBit i = true := by simp [Nat.testBit_or, Nat.testBit_two_pow_self]
    rw [← h2, Nat.testBit_eq_decide_div_mod_eq] at h3
    unfold bitP at h
    simp at h h3
    omega
theorem or_lt16 {S i : Nat} (h : S < 65536) (hi : i < 16) : S ||| 2 ^ i < 65536 := Nat.or_lt_two_pow (n := 16) h (Nat.pow_lt_pow_right (by omega) hi)
/-- an operation cannot be the next one -/
def closedP (s : SrD) (S i : Nat) : Prop := bitP S i = true ∨ bits .andNot .u32 ((s.early[i]?.getD 0 : Nat) : Int) (S : Int) ≠ 0
def fullP (s : SrD) (S : Nat) : Prop := bits .and .u32 (S : Int) (s.req : Int) = s.req
/-- an operation's result, where it has returned, is what it must be -/
def fitsP (s : SrD) (l : List EvD) (i : Nat) (a : OpP) (r : ResD) : Prop := bitP s.req i = true → r.full = (spanP l a).res
inductive WinP (s : SrD) (ts : List (List OpD)) (l : List EvD) : Nat → AFam → Prop
  | done {S : Nat} {A : AFam} (h : fullP s S) : WinP s ts l S A
  | step {S i : Nat} {A : AFam} {a : OpP} (ha : s.cands[i]? = some a) (hc : ¬ closedP s S i) (hr : fitsP s l i a (applyA A a.1 a.2 (opAt ts a)).2) (hw : WinP s ts l (S ||| 2 ^ i) (applyA A a.1 a.2 (opAt ts a)).1) : WinP s ts l S A
inductive SolP (s : SrD) (ts : List (List OpD)) (l : List EvD) : Nat → AFam → List OpP → List OpP → Prop
  | done {S : Nat} {A : AFam} {L : List OpP} (h : fullP s S) : SolP s ts l S A L L
  | step {S i : Nat} {A : AFam} {a : OpP} {L o : List OpP} (hf : ¬ fullP s S) (ha : s.cands[i]? = some a) (hc : ¬ closedP s S i) (hr : fitsP s l i a (applyA A a.1 a.2 (opAt ts a)).2) (hw : SolP s ts l (S ||| 2 ^ i) (applyA A a.1 a.2 (opAt ts a)).1 (L ++ [a]) o) : SolP s ts l S A L o
/-- what the program's Apply leaves -/
def FPost (W : World) (bf bm bi : Nat) (F : FamD) (A1 : AFam) (r : ResD) (e : Ending) (W' : World) : Prop :=
  ∃ F' : FamD, e = .returned (.agg r.cells) ∧ FamIs W' bf bm bi F' ∧ EqvA F'.abs A1 ∧ Only (F.own bf bm bi) W W' ∧ ∀ b, F'.own bf bm bi b → F.own bf bm bi b ∨ W.heap.size ≤ b
theorem fapply_any {W : World} {bf bm bi N : Nat} {F : FamD} {A0 : AFam} (h : FamIs W bf bm bi F) (he : EqvA F.abs A0) (nd : NdA A0) (ok : OkA N A0) (hN : N ≤ 1048576) (t i : Int) (o : OpD) (hk : o.key.size ≤ maxLen) :
    Calls Tryz.prog 21 #[.pointer (some ⟨bf, 0, none⟩), .int .i64 t, .int .i64 i, o.val] W (FPost W bf bm bi F (applyA A0 t i o).1 (applyA A0 t i o).2) := by
  obtain ⟨q1, q2⟩ := applyA_eqv he nd t i o
  refine (apply_any W bf bm bi F N (by omega) (ok.eqv he nd) t i o h hk).mono fun e w' ⟨F', h1, h2, h3, h4, h5⟩ => ⟨F', by rw [h1, q1], h3, by rw [h2]; exact q2, h4, fun b hb => ?_⟩
  rcases h5 b hb with h | h
  · exact Or.inl h
  · exact Or.inr h.2
theorem famLe_of {N : Nat} {F : FamD} {A0 : AFam} (he : EqvA F.abs A0) (nd : NdA A0) (ok : OkA N A0) (its : A0.iters.length ≤ N) (hN : N ≤ 1048576) : FamLe F := by
  have ok' := ok.eqv he nd
  refine ⟨?_, ?_, fun p hp => ?_⟩
  · have := ok'.count
    simp only [FamD.abs, amap, List.length_map] at this
    omega
  · have := he.iters
    simp only [FamD.abs] at this
    rw [this]
    omega
  · have := ok'.lens (p.1, p.2.abs) (List.mem_map.2 ⟨p, hp, rfl⟩)
    exact Nat.le_trans this (by omega)
/-- a family in memory, up to the order of its maps -/
structure FaAt (N : Nat) (A : AFam) (w : World) (bf bm bi : Nat) (F : FamD) : Prop where
  fam : FamIs w bf bm bi F
  eqv : EqvA F.abs A
  nd : NdA A
  ok : OkA N A
  its : A.iters.length ≤ N
  va : ValA A
theorem FaAt.keep {N : Nat} {A : AFam} {w w' : World} {bf bm bi : Nat} {F : FamD} (h : FaAt N A w bf bm bi F) (hk : ∀ k, F.own bf bm bi k → w'.heap[k]? = w.heap[k]?) : FaAt N A w' bf bm bi F := ⟨h.fam.keep hk, h.eqv, h.nd, h.ok, h.its, h.va⟩
/-- the copy -/
theorem FaAt.copied {N : Nat} {A : AFam} {w w' : World} {bf bm bi : Nat} {F : FamD} {e : Ending} (h : FaAt N A w bf bm bi F) (hp : CopyPost w F e w') :
    ∃ (cg cm ci : Nat) (G : FamD), e = .returned (.pointer (some ⟨cg, 0, none⟩)) ∧ FaAt N A w' cg cm ci G ∧ (∀ b, G.own cg cm ci b → w.heap.size ≤ b) ∧ Below w.heap.size w w' := by
  obtain ⟨cg, cm, ci, G, h1, h2, h3, h4, h5, h6, h7⟩ := hp
  refine ⟨cg, cm, ci, G, h1, ⟨h2, ⟨?_, ?_, ?_⟩, h.nd, h.ok, h.its, h.va⟩, h6, h7⟩
  · show G.mask = A.mask
    rw [h3]; exact h.eqv.mask
  · show G.iters = A.iters
    rw [h4]; exact h.eqv.iters
  · exact h5.trans h.eqv.maps
/-- the family behind an operation -/
theorem FaAt.applied {N : Nat} {A : AFam} {w w' : World} {bf bm bi : Nat} {F F' : FamD} (h : FaAt N A w bf bm bi F) (t i : Int) (o : OpD) (hv : U64 o.value) (hf : FamIs w' bf bm bi F') (he : EqvA F'.abs (applyA A t i o).1) : FaAt (N + 1) (applyA A t i o).1 w' bf bm bi F' :=
  ⟨hf, he, h.nd.apply t i o, h.ok.apply t i o, Nat.le_trans (iters_apply A t i o) (by have := h.its; omega), h.va.apply t i o hv⟩
/-- the family as its own contents -/
theorem FaAt.seenF {N : Nat} {A : AFam} {w : World} {bf bm bi : Nat} {F : FamD} (h : FaAt N A w bf bm bi F) : FamA w bf bm bi F.abs (F.own bf bm bi) ∧ OkA N F.abs ∧ ValA F.abs :=
  ⟨⟨F, h.fam, rfl, fun k hk => hk⟩, h.ok.eqv h.eqv h.nd, fun p hp => h.va p (h.eqv.maps.mem_iff.1 hp)⟩
end Go.Proofs.YtbmoehndnbbhcaaGreatDoor
namespace Go.Proofs.YtbmoehndnbbhcaaGreatDoor
set_option linter.unusedVariables false
set_option linter.unusedSimpArgs false
open Go Go.RowKit Go.MapKept
/-- what a call may write: the failed sets, the list's block -/
def FrS (fm : Nat) (v : Value) (k : Nat) : Prop := k = fm ∨ v.ownBlock = some k
structure FrAt (wN wB w : World) (rb : Nat) (ts : List (List OpD)) (l : List EvD) (s : SrD) (D : Nat → Prop) : Prop where
  rk : RecOk wN rb ts l
  tab : TabB wN.heap.size wN
  lo : Below wN.heap.size wN w
  fit : SrFit s
  srB : SrAt wB (wN.heap.size + 1) rb wN.heap.size s
  mapB : ∃ es c, wB.heap[wN.heap.size]? = some (.map es c)
  size : wB.heap.size ≤ w.heap.size
  kb : ∀ k, k < wB.heap.size → k ≠ wN.heap.size → w.heap[k]? = wB.heap[k]?
  memo : MemoW D w wN.heap.size
section
variable {wN wB w w' : World} {rb : Nat} {ts : List (List OpD)} {l : List EvD} {s : SrD} {D : Nat → Prop}
theorem FrAt.below (h : FrAt wN wB w rb ts l s D) (hb : Below w.heap.size w w') : FrAt wN wB w' rb ts l s D :=
  ⟨h.rk, h.tab, h.lo.trans (hb.mono h.lo.size), h.fit, h.srB, h.mapB, Nat.le_trans h.size hb.size, fun k hk hne => (hb.block k (by have := h.size; omega)).trans (h.kb k hk hne), h.memo.of_block (hb.block _ h.memo.lt)⟩
theorem FrAt.only {v : Value} (h : FrAt wN wB w rb ts l s D) (hv : ∀ k, v.ownBlock = some k → wB.heap.size ≤ k) (ho : Only (FrS wN.heap.size v) w w') (hm : MemoW D w' wN.heap.size) : FrAt wN wB w' rb ts l s D := by
  have hfm : wN.heap.size < wB.heap.size := by
    obtain ⟨es, c, hc⟩ := h.mapB
    exact (Array.getElem?_eq_some_iff.1 hc).1
  have hz := h.size
  refine ⟨h.rk, h.tab, ⟨ho.os.trans h.lo.os, ho.tape.trans h.lo.tape, ho.output.trans h.lo.output, Nat.le_trans h.lo.size ho.size, fun k hk => (ho.block k (by have := h.lo.size; omega) ?_).trans (h.lo.block k hk)⟩, h.fit, h.srB, h.mapB, Nat.le_trans h.size ho.size, fun k hk hne => (ho.block k (by omega) ?_).trans (h.kb k hk hne), hm⟩
  · rintro (e | e)
    · omega
    · have := hv k e; omega
  · rintro (e | e)
    · exact hne e
    · have := hv k e; omega
theorem FrAt.cell (h : FrAt wN wB w rb ts l s D) {p : Addr} {v : Value} (hp : p.block < wB.heap.size) (hc : wB.cell? p = some v) : w.cell? p = some v := by
  have hne : p.block ≠ wN.heap.size := fun e => by
    obtain ⟨es, c, hm⟩ := h.mapB
    unfold World.cell? at hc
    rw [e, hm] at hc
    simp at hc
  rw [World.cell?_of_block (h.kb p.block hp hne)]
  exact hc
theorem FrAt.sr (h : FrAt wN wB w rb ts l s D) : SrAt w (wN.heap.size + 1) rb wN.heap.size s := by
  obtain ⟨C, cc, E, ce, K, ck, R, cr, M, cm, h0, h1, h2, h3, h4, h5⟩ := h.srB.box
  have hz := h.size
  refine ⟨⟨C, cc, E, ce, K, ck, R, cr, M, cm, (h.kb _ (Array.getElem?_eq_some_iff.1 h0).1 (by omega)).trans h0, fun g => ?_, fun g => ?_, fun g => ?_, fun g => ?_, fun g => ?_⟩⟩
  · obtain ⟨b, off, e, hb, hc⟩ := h1 g
    exact ⟨b, off, e, by omega, fun k a ha => ⟨h.cell hb (hc k a ha).1, h.cell hb (hc k a ha).2⟩⟩
  · obtain ⟨b, off, e, hb, hc⟩ := h2 g
    exact ⟨b, off, e, by omega, fun k a ha => h.cell hb (hc k a ha)⟩
  · obtain ⟨b, off, e, hb, hc⟩ := h3 g
    exact ⟨b, off, e, by omega, fun k a ha => h.cell hb (hc k a ha)⟩
  · obtain ⟨b, off, e, hb, hc⟩ := h4 g
    exact ⟨b, off, e, by omega, fun k a ha => h.cell hb (hc k a ha)⟩
  · obtain ⟨b, off, e, hb, hc⟩ := h5 g
    exact ⟨b, off, e, by omega, fun k a ha => h.cell hb (hc k a ha)⟩
theorem FrAt.recW (h : FrAt wN wB w rb ts l s D) : RecOk w rb ts l := h.rk.below h.lo
theorem FrAt.tabW (h : FrAt wN wB w rb ts l s D) : TabB w.heap.size w := fun w' h' => h.tab w' (h.lo.trans (h'.mono h.lo.size))
theorem FrAt.fm (h : FrAt wN wB w rb ts l s D) : wN.heap.size + 1 < wB.heap.size := by
  obtain ⟨C, cc, E, ce, K, ck, R, cr, M, cm, h0, _⟩ := h.srB.box
  exact (Array.getElem?_eq_some_iff.1 h0).1
end
/-- a list that a call holds -/
def LsAt (B : Nat) (w : World) (v : Value) (L : List OpP) : Prop := w.ownsRow B 37 2 v L.length (L.flatMap opC2)
/-- a list and the list with one more -/
def LsTwo (W : World) (v v' : Value) (n : Nat) : Prop := (∃ g cap, v = .slice (some ⟨g, 0, none⟩) n cap ∧ v' = .slice (some ⟨g, 0, none⟩) (n + 1) cap) ∨ (v'.ownBlock = some W.heap.size)
theorem row_shrink {w : World} {B g n cap : Nat} {xs : List Value} {a : OpP} (h : w.ownsRow B 37 2 (.slice (some ⟨g, 0, none⟩) (n + 1) cap) (n + 1) (xs ++ opC2 a)) (hx : xs.length = n * 2) : w.ownsRow B 37 2 (.slice (some ⟨g, 0, none⟩) n cap) n xs := by
  refine ⟨hx, Or.inr ?_⟩
  rcases h.2 with ⟨h0, _⟩ | ⟨k, c, cur, hv, hb, hg, hn, hm, hs, ht⟩
  · simp at h0
  · simp only [Value.slice.injEq, Option.some.injEq, Addr.mk.injEq, and_true, true_and] at hv
    obtain ⟨rfl, rfl⟩ := hv
    refine ⟨g, cap, cur, rfl, hb, hg, by omega, hm, hs, ?_⟩
    have := congrArg (List.take (n * 2)) ht
    rw [List.take_take, Nat.min_eq_left (by omega), List.take_append_of_le_length (by omega), List.take_of_length_le (Nat.le_of_eq hx)] at this
    exact this
theorem append_two {w : World} {ty : TypeId} (B : Nat) (v : Value) (n : Nat) (xs : List Value) (hown : w.ownsRow B 37 2 v n xs) (ad : Addr) (a : OpP) (c : Nat) (hnews : ∀ j u, (opC2 a)[j]? = some u → w.cell? (ad.add j) = some u) (hn : n ≤ 100000) (hB : B ≤ w.heap.size) :
    ∃ v' w', (Builtin.append_ #[25, 25] ty #[v, .slice (some ad) 1 c]).run Tryz.prog w = .ok v' w' ∧ w'.ownsRow B 37 2 v' (n + 1) (xs ++ opC2 a) ∧ w'.ownsRow B 37 2 v n xs ∧ w.grownBy w' v.ownBlock ∧ LsTwo w v v' n := by
  obtain ⟨i, hi, hz, hsz, hby⟩ := info_parts3 opInfo
  have ht := Tryz.underlying25
  have hl : (opC2 a).length = 1 * 2 := rfl
  have h1 : ∀ u ∈ opC2 a, u.oneCell' = true := by
    intro u hu
    simp only [opC2, List.mem_cons, List.not_mem_nil, or_false] at hu
    rcases hu with rfl | rfl <;> rfl
  obtain ⟨v', w', hr, ho', hg, _, hat⟩ := run_append_own_at (P := Tryz.prog) w B 25 ty 37 i _ 2 16 ht hi hz hsz hby rfl (by decide) v n xs hown ad 1 c (opC2 a) hl hnews h1 (by unfold maxLen; omega) (by omega) hB
  rcases hown.2 with ⟨rfl, h0⟩ | ⟨g, cap, cur, rfl, hbg, hgc, hnc, hcm, hcs, htake⟩
  · refine ⟨v', w', hr, ho', ?_, hg, Or.inr ?_⟩
    · subst h0
      have : xs = [] := List.eq_nil_of_length_eq_zero (by have := hown.1; omega)
      subst this
      exact World.ownsRow_nil _ _ _ _
    · rcases hat with h | h
      · obtain ⟨g2, c2, e2⟩ := row_some ho' (by omega)
        rw [e2] at h
        simp [Value.ownBlock] at h
      · exact h
  · by_cases hroom : n + 1 ≤ cap
    · have hfit : n * i.size + (opC2 a).length ≤ cur.size := by rw [hl, hcs, hsz, ← Nat.add_mul]; exact Nat.mul_le_mul_right _ hroom
      have hr2 := run_append_room (P := Tryz.prog) w 25 ty 37 i ht hi g n cap cur hgc ad 1 c (opC2 a) (by rw [hl, hsz]) hnews h1 hroom hfit
      rw [hr] at hr2
      simp only [Result.ok.injEq] at hr2
      obtain ⟨e1, e2⟩ := hr2
      subst e1
      refine ⟨_, w', hr, ho', row_shrink ho' hown.1, hg, Or.inl ⟨g, cap, rfl, rfl⟩⟩
    · have holds : ∀ j u, xs[j]? = some u → w.cell? ((⟨g, 0, none⟩ : Addr).add j) = some u := hown.cells (g := g) rfl
      have hr2 := run_append_grow (P := Tryz.prog) w 25 ty 37 i _ ht hi hz ⟨g, 0, none⟩ n cap xs (by rw [hsz]; exact hown.1) holds ad 1 c (opC2 a) (by rw [hl, hsz]) hnews (by omega) (by omega) (growslice_fits (by omega) (by rw [hby]; omega))
      rw [hr] at hr2
      simp only [Result.ok.injEq] at hr2
      obtain ⟨e1, e2⟩ := hr2
      refine ⟨v', w', hr, ho', row_keep hown fun k hk => ?_, hg, Or.inr (by rw [e1]; rfl)⟩
      rw [e2]
      exact Below.heap_alloc _ _ _ (row_lt hown hk)
theorem step_list {ops : Array Oper} {o : Oper} {a : Act} {K : Act → World → Prop} {Q : Exit → Act → World → Prop} {E : Prop} (hgd : o.guard = none) (s x : Operand) (ho : o.op = .call { callee := .builtin .append, args := #[s, x], argTypes := #[25, 25] })
    {w7 : World} (W : World) {B : Nat} {v : Value} {L : List OpP} (h : LsAt B w7 v L) (hW : Below w7.heap.size w7 W) (hs : a.eval s = v) (ad : Addr) (hx : a.eval x = .slice (some ad) 1 1) (p : OpP)
    (hc : ∀ j u, (opC2 p)[j]? = some u → W.cell? (ad.add j) = some u) (hn : L.length ≤ 100000) (hB : B ≤ w7.heap.size)
    (hK : ∀ v' w', LsAt B w' v' (L ++ [p]) ∧ LsAt B w' v L ∧ W.grownBy w' v.ownBlock ∧ LsTwo W v v' L.length → K (a.put o.dst v') w') : if Region.wanted o (yielded ops a.tmps) = true then Oper.wp Tryz.prog o a W K Q else E := by
  have hw : Region.wanted o (yielded ops a.tmps) = true := by simp [Region.wanted, hgd]
  rw [if_pos hw]
  obtain ⟨v', w', hr, h1, h2, h3, h4⟩ := append_two (w := W) (ty := o.type) B v L.length (L.flatMap opC2) (row_keep h fun g hg => hW.block g (row_lt h hg)) ad p 1 hc hn (Nat.le_trans hB hW.size)
  unfold Oper.wp execOp
  simp only [ho, resolve, invoke, builtin, Sem.run_bind, Sem.run_pure, Result.andThen_ok, List.map_toArray, List.map_cons, List.map_nil, hs, hx, hr]
  refine hK v' w' ⟨?_, h2, h3, h4⟩
  unfold LsAt
  rw [List.length_append, List.flatMap_append]
  exact h1
/-- the shorter list behind a call that was handed the longer one -/
theorem LsAt.back {B fm : Nat} {W w1 w2 : World} {v v' : Value} {L : List OpP} {p : OpP} (hB : fm < B) (h : LsAt B w1 v L) (hg : W.grownBy w1 v.ownBlock) (ht : LsTwo W v v' L.length) (hv : ∀ k, v.ownBlock = some k → k < W.heap.size) (h2 : LsAt B w2 v' (L ++ [p])) (ho : Only (FrS fm v') w1 w2) : LsAt B w2 v L := by
  rcases ht with ⟨g, cap, rfl, rfl⟩ | ht
  · unfold LsAt at h2 ⊢
    rw [List.length_append, List.flatMap_append] at h2
    refine row_shrink (a := p) ?_ h.1
    simpa using h2
  · refine row_keep h fun k hk => ho.block k (row_lt h hk) ?_
    have h1 := (row_kind h hk).1
    have h3 := hv k hk
    rintro (e | e)
    · omega
    · rw [ht] at e
      simp only [Option.some.injEq] at e
      omega
section
variable {wN wB w wr wc W w8 w9 : World} {rb N cg cm ci : Nat} {ts : List (List OpD)} {l : List EvD} {s : SrD} {D : Nat → Prop} {A : AFam} {F : FamD} {v v8 : Value} {L : List OpP} {p : OpP}
theorem grown_onlyF (hg : W.grownBy w8 v.ownBlock) : Only (FrS wN.heap.size v) W w8 := ⟨hg.os, hg.tape, hg.output, hg.size, fun k hk hn => hg.block k hk fun e => hn (Or.inr e.symm)⟩
theorem below_onlyR {S : Nat → Prop} (h : Below wc.heap.size wc W) : Only S wc W := ⟨h.os, h.tape, h.output, h.size, fun k hk _ => h.block k hk⟩
/-- what a call needs, behind the append -/
theorem from_next (hf : FrAt wN wB wc rb ts l s D) (ha : FaAt N A wc cg cm ci F) {lo : Nat} (hown : ∀ k, F.own cg cm ci k → lo ≤ k ∧ k < wc.heap.size) (hlo : wB.heap.size ≤ lo) (hv : ∀ k, v.ownBlock = some k → wB.heap.size ≤ k ∧ k < lo)
    (hW : Below wc.heap.size wc W) (hg : W.grownBy w8 v.ownBlock) {n : Nat} (ht : LsTwo W v v8 n) : FrAt wN wB w8 rb ts l s D ∧ FaAt N A w8 cg cm ci F ∧ ∀ k, F.own cg cm ci k → k ≠ wN.heap.size ∧ v8.ownBlock ≠ some k := by
  have hfm := hf.fm
  have hne : ∀ k, F.own cg cm ci k → v.ownBlock ≠ some k := fun k hk e => by have := hown k hk; have := hv k e; omega
  have hs := hW.size
  refine ⟨(hf.below hW).only (fun k hk => (hv k hk).1) (grown_onlyF hg) ((hf.below hW).memo.of_block (hg.block _ (by have := hf.size; omega) fun e => by have := (hv _ e.symm).1; omega)), ha.keep fun k hk => (hg.block k (by have := hown k hk; omega) fun e => hne k hk e.symm).trans (hW.block k (hown k hk).2), fun k hk => ⟨by have := hown k hk; omega, fun e => ?_⟩⟩
  rcases ht with ⟨g, cap, rfl, rfl⟩ | ht
  · exact hne k hk e
  · rw [ht] at e
    simp only [Option.some.injEq] at e
    have := hown k hk
    omega
/-- what is left behind the call -/
theorem from_back {kb : Nat} {cs : Array Value} (hf : FrAt wN wB w8 rb ts l s D) (hwr : FrAt wN wB wr rb ts l s D) (ho : Only (FrS wN.heap.size v) w wr) (hlr : LsAt wB.heap.size wr v L) (hk : wr.heap[kb]? = some (.cells cs 95 (0, 0))) (hc : Below wr.heap.size wr wc) (hW : Below wc.heap.size wc W) (hg : W.grownBy w8 v.ownBlock) (ht : LsTwo W v v8 L.length)
    (h1 : LsAt wB.heap.size w8 v L) (h2 : LsAt wB.heap.size w9 v8 (L ++ [p])) (h8 : LsAt wB.heap.size w8 v8 (L ++ [p])) (ho9 : Only (FrS wN.heap.size v8) w8 w9) (hm : MemoW D w9 wN.heap.size) :
    FrAt wN wB w9 rb ts l s D ∧ LsAt wB.heap.size w9 v L ∧ Only (FrS wN.heap.size v) w w9 ∧ w9.heap[kb]? = some (.cells cs 95 (0, 0)) := by
  have hfm := hwr.fm
  have hs1 := ho.size
  have hs2 := hc.size
  have hs3 := hW.size
  have hvr : ∀ k, v.ownBlock = some k → k < wr.heap.size := fun k hk => row_lt hlr hk
  have hv8 : ∀ k, v8.ownBlock = some k → v.ownBlock = some k ∨ W.heap.size ≤ k := fun k hk => by
    rcases ht with ⟨g, cap, rfl, rfl⟩ | ht
    · exact Or.inl hk
    · rw [ht] at hk
      simp only [Option.some.injEq] at hk
      exact Or.inr (by omega)
  have hkb := (Array.getElem?_eq_some_iff.1 hk).1
  have hkv : v.ownBlock ≠ some kb := fun e => by
    obtain ⟨cur, hcur⟩ := (row_kind hlr e).2
    rw [hk] at hcur
    simp only [Option.some.injEq, Obj.cells.injEq] at hcur
    exact absurd hcur.2.1 (by decide)
  have hkf : kb ≠ wN.heap.size := fun e => by
    obtain ⟨L0, ⟨es, c, hm0, _⟩, _⟩ := hwr.memo
    rw [← e, hk] at hm0
    simp at hm0
  refine ⟨hf.only (fun k hk => (row_kind h8 hk).1) ho9 hm, h1.back (by omega) hg ht (fun k hk => by have := hvr k hk; omega) h2 ho9, ?_, ?_⟩
  · refine Only.trans (T := fun k => FrS wN.heap.size v k ∨ W.heap.size ≤ k) ho (Only.trans (T := FrS wN.heap.size v8) (S := fun k => FrS wN.heap.size v k ∨ W.heap.size ≤ k) (Only.trans (S := fun k => FrS wN.heap.size v k ∨ W.heap.size ≤ k) (below_onlyR (hc.trans (hW.mono hc.size))) (grown_onlyF hg) fun k hk => Or.inl (Or.inl hk)) ho9 fun k hk => ?_) fun k hk => ?_
    · rcases hk with hk | hk
      · exact Or.inl (Or.inl (Or.inl hk))
      · rcases hv8 k hk with hk | hk
        · exact Or.inl (Or.inl (Or.inr hk))
        · exact Or.inl (Or.inr hk)
    · rcases hk with hk | hk
      · exact Or.inl hk
      · exact Or.inr (by omega)
  · refine (ho9.block kb (Nat.lt_of_lt_of_le (by omega) hg.size) fun hs => ?_).trans ((hg.block kb (by omega) fun e => hkv e.symm).trans ((hW.block kb (by omega)).trans ((hc.block kb hkb).trans hk)))
    rcases hs with hs | hs
    · exact hkf hs
    · rcases hv8 kb hs with hs | hs
      · exact hkv hs
      · omega
end
end Go.Proofs.YtbmoehndnbbhcaaGreatDoor
