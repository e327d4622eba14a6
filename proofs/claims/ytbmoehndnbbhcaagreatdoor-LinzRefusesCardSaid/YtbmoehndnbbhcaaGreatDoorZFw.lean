/- The walk of package linz' from. -/
import Derived.Test.YtbmoehndnbbhcaaGreatDoorMZFr
import Derived.Deep.RegionLaw
import Derived.Deep.RegionHeld3
import Derived.BigQuiet
import Derived.StillTailTactics
namespace Go.Proofs.YtbmoehndnbbhcaaGreatDoor
set_option linter.unusedVariables false
set_option linter.unusedSimpArgs false
open Go Go.RowKit Go.MapKept
def FrPost (B fm : Nat) (D : Nat → Prop) (w : World) (v : Value) (L : List OpP) (s : SrD) (ts : List (List OpD)) (l : List EvD) (S : Nat) (A : AFam) (E : Prop) (e : Ending) (w' : World) : Prop :=
  Only (FrS fm v) w w' ∧ LsAt B w' v L ∧ MemoW D w' fm ∧ ∃ (A1 : Option Addr) (n c : Nat) (b : Bool), e = .returned (.tuple #[.slice A1 n c, .bool b]) ∧
    (b = false → A1 = none ∧ n = 0 ∧ c = 0 ∧ (E → ¬ WinP s ts l S A)) ∧ (b = true → ∃ o, n = o.length ∧ SolP s ts l S A L o ∧ OrdAt w' A1 o ∧ o.length ≤ 100000)
theorem FrPost.no {B fm : Nat} {D : Nat → Prop} {w w' : World} {v : Value} {L : List OpP} {s : SrD} {ts : List (List OpD)} {l : List EvD} {S : Nat} {A : AFam} {E : Prop} (h1 : Only (FrS fm v) w w') (h2 : LsAt B w' v L) (h3 : MemoW D w' fm) (h4 : E → ¬ WinP s ts l S A) : FrPost B fm D w v L s ts l S A E (.returned (.tuple #[.slice none 0 0, .bool false])) w' :=
  ⟨h1, h2, h3, none, 0, 0, false, rfl, fun _ => ⟨rfl, rfl, rfl, h4⟩, fun h => by simp at h⟩
theorem FrPost.yes {B fm : Nat} {D : Nat → Prop} {w w' : World} {v : Value} {L o : List OpP} {s : SrD} {ts : List (List OpD)} {l : List EvD} {S n c : Nat} {A : AFam} {E : Prop} {A1 : Option Addr} (h1 : Only (FrS fm v) w w') (h2 : LsAt B w' v L) (h3 : MemoW D w' fm) (hn : n = o.length) (h4 : SolP s ts l S A L o) (h5 : OrdAt w' A1 o) (h6 : o.length ≤ 100000) : FrPost B fm D w v L s ts l S A E (.returned (.tuple #[.slice A1 n c, .bool true])) w' :=
  ⟨h1, h2, h3, A1, n, c, true, rfl, fun h => by simp at h, fun _ => ⟨o, hn, h4, h5, h6⟩⟩
theorem below_onlyF {S : Nat → Prop} {w w' : World} (h : Below w.heap.size w w') : Only S w w' := ⟨h.os, h.tape, h.output, h.size, fun k hk _ => h.block k hk⟩
def FrRel (wN wB w : World) (rb kb : Nat) (ts : List (List OpD)) (l : List EvD) (s : SrD) (D : Nat → Prop) (E : Prop) (v : Value) (L : List OpP) (S : Nat) (A : AFam) (str : ByteArray) (i : Value) (wr : World) : Prop :=
  ∃ j : Nat, j ≤ s.cands.length ∧ i = .int .i64 j ∧ FrAt wN wB wr rb ts l s D ∧ LsAt wB.heap.size wr v L ∧ Only (FrS wN.heap.size v) w wr ∧ wr.heap[kb]? = some (.cells #[.int .u32 S, .string str] 95 (0, 0)) ∧
    (E → ∀ k a, k < j → s.cands[k]? = some a → ¬ closedP s S k → fitsP s l k a (applyA A a.1 a.2 (opAt ts a)).2 → ¬ WinP s ts l (S ||| 2 ^ k) (applyA A a.1 a.2 (opAt ts a)).1)
theorem opC2_lenF : ∀ L : List OpP, (L.flatMap opC2).length = L.length * 2
  | [] => rfl
  | a :: r => by rw [List.flatMap_cons, List.length_append, opC2_lenF r, List.length_cons]; show 2 + _ = _; omega
theorem opC2_oneF (L : List OpP) : ∀ u ∈ L.flatMap opC2, u.oneCell' = true := by
  intro u hu
  obtain ⟨a, _, ha⟩ := List.mem_flatMap.1 hu
  simp only [opC2, List.mem_cons, List.not_mem_nil, or_false] at ha
  rcases ha with rfl | rfl <;> rfl
theorem lclone_any (w : World) (B : Nat) (v : Value) (L : List OpP) (h : LsAt B w v L) (hn : L.length ≤ 100000) :
    Calls Tryz.prog 37 #[v] w fun e w' => ∃ A1 c, e = .returned (.slice A1 L.length c) ∧ OrdAt w' A1 L ∧ Below w.heap.size w w' := by
  obtain ⟨a, c, rfl⟩ := row_form h
  by_cases h0 : 0 < L.length
  · obtain ⟨i0, hi, hz0, hz1, hz2⟩ := info_parts3 opInfo
    obtain ⟨g, cap, hv⟩ := row_some h h0
    simp only [Value.slice.injEq, true_and] at hv
    obtain ⟨rfl, rfl⟩ := hv
    refine (Tryz.slices_Clone i0 _ 2 16 hi hz0 hz1 hz2 rfl (by decide) (fun w => by kernel_rfl) g 0 L.length c (L.flatMap opC2) w (opC2_lenF L) (by unfold maxLen; omega) (by omega) (fun j u hj => ?_) (opC2_oneF L)).mono ?_
    · have := h.cells (g := g) rfl j u hj
      rw [raddr] at this
      rwa [Nat.zero_add]
    · rintro e w' ⟨v', rfl, ho, _, hb⟩
      obtain ⟨a', c', rfl⟩ := row_form ho
      exact ⟨a', c', rfl, ordAt_of_row ho rfl, hb⟩
  · have e0 : L.length = 0 := by omega
    have hL : L = [] := List.eq_nil_of_length_eq_zero e0
    subst hL
    rcases h.2 with ⟨h1, _⟩ | ⟨g, cap, cur, h1, hb, hg, hn1, hn2, hs, ht⟩
    · simp only [Value.slice.injEq, true_and] at h1
      obtain ⟨rfl, -, rfl⟩ := h1
      refine (Tryz.slices_Clone_nil 0 0 w).mono ?_
      rintro e w' ⟨rfl, rfl⟩
      exact ⟨none, 0, rfl, fun h => absurd h (by simp), Below.refl _ _⟩
    · simp only [Value.slice.injEq, true_and] at h1
      obtain ⟨rfl, rfl⟩ := h1
      obtain ⟨i0, hi, hz0, hz1, hz2⟩ := info_parts3 opInfo
      refine (Tryz.slices_Clone i0 _ 2 16 hi hz0 hz1 hz2 rfl (by decide) (fun w => by kernel_rfl) g 0 0 c [] w rfl (by unfold maxLen; omega) (by omega) (fun j u hj => by simp at hj) (by simp)).mono ?_
      rintro e w' ⟨v', rfl, ho, _, hb⟩
      obtain ⟨a', c', rfl⟩ := row_form ho
      exact ⟨a', c', rfl, fun h => absurd h (by simp), hb⟩
theorem run_field_span2 (si sr e : Int) (f : Bool) (v : Int) (k : ByteArray) (c r x : Int) (y : Bool) (W : World) : (Instr.field 63 (.agg #[.int .i64 si, .int .i64 sr, .int .i64 e, .bool f, .int .u64 v, .string k, .int .i64 c, .int .i64 r, .int .i64 x, .bool y]) 2).run Tryz.prog W = .ok (.agg #[.int .i64 e, .bool f, .int .u64 v, .string k, .int .i64 c, .int .i64 r, .int .i64 x, .bool y]) W := by
  kernel_rfl
theorem span_fit {l : List EvD} (fe : EvsFit l) (a : OpP) : (spanP l a).res.Fit := by
  cases h : resultP l a with
  | none => unfold spanP; rw [h]; exact zero_fit
  | some r => rw [span_res l a h]; exact result_fit fe h
def FrSpec (wN wB : World) (rb : Nat) (ts : List (List OpD)) (l : List EvD) (s : SrD) (D : Nat → Prop) (E : Prop) (R : Nat → AFam → Prop) (m : Nat) : Prop :=
  ∀ (w : World) (S : Nat) (A : AFam) (N bf bm bi : Nat) (F : FamD) (v : Value) (L : List OpP), 65536 - S ≤ m → S < 65536 → N ≤ S + 1 → L.length ≤ S → FrAt wN wB w rb ts l s D → FaAt N A w bf bm bi F → LsAt wB.heap.size w v L →
    (∀ k, F.own bf bm bi k → k ≠ wN.heap.size ∧ v.ownBlock ≠ some k) → (E → R S A) →
    Calls Tryz.prog 17 #[.pointer (some ⟨wN.heap.size + 1, 0, none⟩), .int .u32 S, .pointer (some ⟨bf, 0, none⟩), v] w (FrPost wB.heap.size wN.heap.size D w v L s ts l S A E)
structure FrHyp (ts : List (List OpD)) (l : List EvD) (s : SrD) (D : Nat → Prop) (E : Prop) (R : Nat → AFam → Prop) : Prop where
  dead : ∀ S, D S → E → ∀ A, R S A → ¬ WinP s ts l S A
  mkD : ∀ S, (E → ∀ A, R S A → ¬ WinP s ts l S A) → D S
  same : E → ∀ S A B, R S A → R S B → WinP s ts l S B → WinP s ts l S A
  next : E → ∀ S i A a, R S A → s.cands[i]? = some a → ¬ closedP s S i → fitsP s l i a (applyA A a.1 a.2 (opAt ts a)).2 → R (S ||| 2 ^ i) (applyA A a.1 a.2 (opAt ts a)).1
  cands : ∀ a ∈ s.cands, ExP (lens ts) a
  val : ValT ts
  evs : EvsFit l
set_option maxRecDepth 100000 in
set_option maxHeartbeats 4000000 in
theorem from_step (wN wB : World) (rb : Nat) (ts : List (List OpD)) (l : List EvD) (s : SrD) (D : Nat → Prop) (E : Prop) (R : Nat → AFam → Prop) (HY : FrHyp ts l s D E R) (m : Nat) (ih : FrSpec wN wB rb ts l s D E R m) : FrSpec wN wB rb ts l s D E R (m + 1) := by
  intro w S A N bf bm bi F v L hm hS hN hL hfr hfa hls hown hR
  have IH := Lib.hid ih
  have FR := Lib.hid hfr
  have FA := Lib.hid hfa
  have LS := Lib.hid hls
  have OW := Lib.hid hown
  have RR := Lib.hid hR
  have HY := Lib.hid HY
  clear ih hfr hfa hls hown hR
  have hfit := FR.out.fit.req
  obtain ⟨C, cc, Ea, ce, K, ck, Rd, cr, M, cm, h0, h1, h2, h3, h4, h5⟩ := FR.out.srB.box
  have HC := Lib.hid h1
  have HE := Lib.hid h2
  have CB : Hid (∀ W, FrAt wN wB W rb ts l s D → W.cell? ⟨wN.heap.size + 1, 0, none⟩ = some (.pointer (some ⟨rb, 0, none⟩)) ∧ W.cell? ⟨wN.heap.size + 1, 1, none⟩ = some (.slice C s.cands.length cc) ∧ W.cell? ⟨wN.heap.size + 1, 2, none⟩ = some (.int .u32 s.req) ∧ W.cell? ⟨wN.heap.size + 1, 3, none⟩ = some (.slice Ea s.early.length ce) ∧ W.cell? ⟨wN.heap.size + 1, 7, none⟩ = some (.map (some wN.heap.size))) := Lib.hid fun W hW =>
    ⟨hW.cell (p := ⟨_, 0, none⟩) hW.fm (blk_cell h0 0), hW.cell (p := ⟨_, 1, none⟩) hW.fm (blk_cell h0 1), hW.cell (p := ⟨_, 2, none⟩) hW.fm (blk_cell h0 2), hW.cell (p := ⟨_, 3, none⟩) hW.fm (blk_cell h0 3), hW.cell (p := ⟨_, 7, none⟩) hW.fm (blk_cell h0 7)⟩
  clear h0 h1 h2 h3 h4 h5
  obtain ⟨y0, y1, y2, y3, y7⟩ := CB.out w FR.out
  by_cases hfull : fullP s S
  · have FU := Lib.hid hfull
    unfold fullP at hfull
    go_enter Tryz.func17, Tryz.ntmps17
    go_wp2_with fail
    go_quiet (fail)
    have BN := Lib.hid (below_drewN (Below.refl w.heap.size w) nq)
    generalize w.drewN nq = W0 at *
    have CC := Lib.hid (fun (W : World) (hW : Below w.heap.size w W) => lclone_any W wB.heap.size v L (row_keep LS.out fun g hg => hW.block g (row_lt LS.out hg)) (by omega))
    go_wp2_with (first | (go_at_call 37; refine stopAt ?_))
    unfold StopAt
    refine (CC.out _ BN.out).mono ?_
    rintro e w2 ⟨A1, c1, rfl, ho, hb⟩
    have PP : Hid (FrPost wB.heap.size wN.heap.size D w v L s ts l S A E (.returned (.tuple #[.slice A1 L.length c1, .bool true])) w2) := by
      have hB := BN.out.trans (hb.mono BN.out.size)
      exact Lib.hid (.yes (below_onlyF hB) (row_keep LS.out fun g hg => hB.block g (row_lt LS.out hg)) (FR.out.memo.of_block (hB.block _ FR.out.memo.lt)) rfl (.done FU.out) ho (by omega))
    clear ho hb
    go_wp2_with fail
    refine bodyPost_ret (v := .tuple #[.slice A1 L.length c1, .bool true]) (by simp [results, Tryz.results17, go_sem]) rfl PP.out
  · have FU := Lib.hid hfull
    unfold fullP at hfull
    have hfb : (bits .and .u32 (S : Int) (s.req : Int) == (s.req : Int)) = false := by simpa using hfull
    go_enter Tryz.func17, Tryz.ntmps17
    go_wp2_with fail
    go_quiet (fail)
    have BN := Lib.hid (below_drewN (Below.refl w.heap.size w) nq)
    generalize w.drewN nq = W0 at *
    have SE := Lib.hid (fun (W : World) (hW : Below w.heap.size w W) => seen_any W _ rb _ s (FR.out.below hW).sr FR.out.fit S (by omega) bf bm bi F.abs (F.own bf bm bi) N (by omega) (FA.out.keep fun k hk => hW.block k (FA.out.fam.lt hk)).seenF.1 FA.out.seenF.2.1 FA.out.seenF.2.2 (FR.out.below hW).tabW)
    go_wp2_with (first | (go_at_call 38; refine stopAt ?_))
    unfold StopAt
    refine (SE.out _ BN.out).mono ?_
    rintro e w2 ⟨str, rfl, hstr, hb⟩
    have BS := Lib.hid (BN.out.trans (hb.mono BN.out.size))
    clear hb BN SE
    go_upto_region 4 with fail
    obtain ⟨W4, hW4⟩ : ∃ W4, W4 = w2.alloc (.cells #[.int .u32 S, .string str] 95) := ⟨_, rfl⟩
    have B4 : Hid (Below w.heap.size w W4) := by rw [hW4]; exact Lib.hid (balZ BS.out _)
    have KB : Hid (W4.heap[w2.heap.size]? = some (.cells #[.int .u32 S, .string str] 95 (0, 0))) := by rw [hW4]; exact Lib.hid (heap_alloc w2 _).1
    have hkb := BS.out.size
    rw [← hW4]
    clear hW4
    generalize w2.heap.size = kb at *
    have F4 := Lib.hid (FR.out.below B4.out)
    have mf : MemFit (S, str) := ⟨by show S < _; omega, by show str.size ≤ _; unfold maxLen; omega⟩
    obtain ⟨hit, hl, hd⟩ := F4.out.memo.look S str mf
    have MF := Lib.hid mf
    have HD := Lib.hid hd
    have KC : Hid (∀ W, Below W4.heap.size W4 W → W.cell? ⟨wN.heap.size + 1, 7, none⟩ = some (.map (some wN.heap.size)) ∧ W.cell? ⟨kb, 0, none⟩ = some (.int .u32 S) ∧ W.cell? ⟨kb, 1, none⟩ = some (.string str) ∧ (Instr.lookup 86 (.map (some wN.heap.size)) (.agg #[.int .u32 S, .string str]) false).run Tryz.prog W = .ok (.bool hit) W) :=
      Lib.hid fun W hW => ⟨(CB.out W (F4.out.below hW)).2.2.2.2, blk_cell (kept_block KB.out hW) 0, blk_cell (kept_block KB.out hW) 1, hl W (hW.block _ F4.out.memo.lt)⟩
    have BD : Hid (Below W4.heap.size W4 W4.drew) := Lib.hid (Below.refl _ _).drew
    clear hl hd mf y0 y1 y2 y3 y7 hfull hfb BS
    refine wp_region_class (C := fun W => Below W4.heap.size W4 W) (by kernel_rfl) (by kernel_rfl) BD.out ?_
    repeat (first | go_big_quiet_step (fail) | (refine' wpQuiet_take (by rfl) (fun W hW => ?_) ?_; rotate_left; (obtain ⟨x0, x1, x2, x3⟩ := KC.out W hW); go_simp; (first | rfl | skip); (simp only [Act.put, List.setIfInBounds_toArray, List.set_cons_zero, List.set_cons_succ])))
    refine wpQuiet_nil ?_
    intro w5 hb5
    have B5 := Lib.hid hb5
    clear hb5 BD KC
    cases hit with
    | true =>
      have PP : Hid (FrPost wB.heap.size wN.heap.size D w v L s ts l S A E (.returned (.tuple #[.slice none 0 0, .bool false])) w5) := by
        have hB := B4.out.trans (B5.out.mono B4.out.size)
        exact Lib.hid (.no (below_onlyF hB) (row_keep LS.out fun g hg => hB.block g (row_lt LS.out hg)) (FR.out.memo.of_block (hB.block _ FR.out.memo.lt)) fun hE => HY.out.dead S (HD.out rfl) hE A (RR.out hE))
      go_wp2_with fail
      refine bodyPost_ret (v := .tuple #[.slice none 0 0, .bool false]) (by simp [results, Tryz.results17, go_sem]) rfl PP.out
    | false =>
      clear HD
      have F5 := Lib.hid (F4.out.below B5.out)
      have O5 : Hid (Only (FrS wN.heap.size v) w w5) := Lib.hid (below_onlyF (B4.out.trans (B5.out.mono B4.out.size)))
      have L5 := Lib.hid (show LsAt wB.heap.size w5 v L from row_keep LS.out fun g hg => (B4.out.trans (B5.out.mono B4.out.size)).block g (row_lt LS.out hg))
      have K5 := Lib.hid (kept_block KB.out B5.out)
      obtain ⟨y0, y1, y2, y3, y7⟩ := CB.out w5 F5.out
      clear B4 B5 KB F4
      go_wp2_with fail
      clear y0 y1 y2 y3 y7
      go_loopw [47] (fun i wr => FrRel wN wB w rb kb ts l s D E v L S A str i wr) (fun i _ => s.cands.length - (intOf i).toNat)
      case atStart => exact ⟨0, by omega, rfl, F5.out, L5.out, O5.out, K5.out, fun _ k a hk => absurd hk (by omega)⟩
      case round =>
        clear F5 O5 L5 K5
        obtain ⟨j, hj, rfl, hfr, hls, hon, hkb2, hno⟩ := hrel
        have FI := Lib.hid hfr
        have LI := Lib.hid hls
        have OI := Lib.hid hon
        have KI := Lib.hid hkb2
        have NO := Lib.hid hno
        clear hfr hls hon hkb2 hno
        have hn16 := FI.out.fit.n
        by_cases hlt : j < s.cands.length
        · obtain ⟨a, ha⟩ : ∃ a, s.cands[j]? = some a := ⟨_, List.getElem?_eq_getElem hlt⟩
          obtain ⟨cb, coff, hC, hcbz, hcc⟩ := HC.out (by omega)
          subst hC
          have c0 := FI.out.cell (p := ⟨cb, _, none⟩) hcbz (hcc j a ha).1
          have c1 := FI.out.cell (p := ⟨cb, _, none⟩) hcbz (hcc j a ha).2
          have hel := FI.out.fit.early
          obtain ⟨eb, eoff, hEa, hebz, hec⟩ := HE.out (by omega)
          subst hEa
          obtain ⟨ee, hee⟩ : ∃ ee, s.early[j]? = some ee := ⟨_, List.getElem?_eq_getElem (by omega)⟩
          have c2 := FI.out.cell (p := ⟨eb, _, none⟩) hebz (hec j ee hee)
          have hj0 : (0 : Int) ≤ j := by omega
          have hj1 : (j : Int) < s.cands.length := by omega
          have hj2 : (j : Int) < s.early.length := by omega
          obtain ⟨t, i, tt, o, rfl, ht, hoo, hop⟩ := exP_get (HY.out.cands a (List.mem_of_getElem? ha))
          have HA := Lib.hid ha
          have HEE := Lib.hid hee
          have HT := Lib.hid (And.intro ht hoo)
          have HP := Lib.hid hop
          have hil := (List.getElem?_eq_some_iff.1 hoo).1
          clear hcc hec ha hee ht hoo hop
          simp only at c0 c1
          obtain ⟨y0, y1, y2, y3, y7⟩ := CB.out wr FI.out
          go_upto_region 9 with fail
          obtain ⟨W1, hW1⟩ : ∃ W1, W1 = wr.alloc (.cells #[.int .i64 t, .int .i64 i] 37) := ⟨_, rfl⟩
          have B1 : Hid (Below wr.heap.size wr W1) := by rw [hW1]; exact Lib.hid (balZ (Below.refl _ _) _)
          have KA : Hid (W1.heap[wr.heap.size]? = some (opBox ((t : Int), (i : Int)))) := by rw [hW1]; exact Lib.hid (heap_alloc wr _).1
          have hbx : wr.heap.size < W1.heap.size := (Array.getElem?_eq_some_iff.1 KA.out).1
          have hc2 : W1.cell? ⟨eb, eoff + j, none⟩ = some (.int .u32 ee) := (B1.out.cell (p := ⟨eb, _, none⟩) (by have := FI.out.size; show eb < _; omega)).trans c2
          rw [← hW1]
          clear hW1 c0 c1 c2 y0 y1 y2 y3 y7
          have F1 := Lib.hid (FI.out.below B1.out)
          obtain ⟨y0, y1, y2, y3, y7⟩ := CB.out W1 F1.out
          have AB := Lib.hid (and_bit S j (by omega))
          have NX : Hid (∀ W, Below wr.heap.size wr W → (E → ¬ closedP s S j → fitsP s l j ((t : Int), (i : Int)) (applyA A t i (opAt ts ((t : Int), (i : Int)))).2 → ¬ WinP s ts l (S ||| 2 ^ j) (applyA A t i (opAt ts ((t : Int), (i : Int)))).1) → FrRel wN wB w rb kb ts l s D E v L S A str (.int .i64 ((j : Int) + 1)) W) := Lib.hid fun W hW hw =>
            ⟨j + 1, by omega, by go_num, FI.out.below hW, row_keep LI.out fun g hg => hW.block g (row_lt LI.out hg), OI.out.trans (below_onlyF hW) (fun k hk => Or.inl hk), kept_block KI.out hW, fun hE k a hk ha => by
              by_cases hkj : k = j
              · subst hkj
                rw [HA.out] at ha
                obtain rfl := Option.some.inj ha
                exact hw hE
              · exact NO.out hE k a (by omega) ha⟩
          by_cases hbit : bitP S j = true
          · have hb1 : bits .and .u32 ((S : Int) / 2 ^ j) 1 = 1 := by
              rw [AB.out]
              unfold bitP at hbit
              simp at hbit
              omega
            have NY := Lib.hid (NX.out W1 B1.out fun _ hc => absurd (Or.inl hbit) hc)
            go_wp2_with fail
            go_roundw
            case rel => exact NY.out
            case measure => simp [intOf]; omega
          have hb0 : bits .and .u32 ((S : Int) / 2 ^ j) 1 = 0 := by
            rw [AB.out]
            unfold bitP at hbit
            simp at hbit
            omega
          have EQ := Lib.hid (show (s.early[j]?.getD 0) = ee by rw [HEE.out]; rfl)
          by_cases hearl : bits .andNot .u32 (ee : Int) (S : Int) = 0
          rotate_left
          · have hearb : (bits .andNot .u32 (ee : Int) (S : Int) == 0) = false := by simpa using hearl
            have NY := Lib.hid (NX.out W1 B1.out fun _ hc => absurd (Or.inr (by rw [EQ.out]; exact hearl)) hc)
            go_wp2_with fail
            go_roundw
            case rel => exact NY.out
            case measure => simp [intOf]; omega
          have OPN := Lib.hid (show ¬ closedP s S j by
            rintro (h | h)
            · exact hbit h
            · rw [EQ.out] at h; exact h hearl)
          have FA1 := Lib.hid (FA.out.keep (w' := W1) fun k hk => (B1.out.block k (Nat.lt_of_lt_of_le (FA.out.fam.lt hk) OI.out.size)).trans (OI.out.block k (FA.out.fam.lt hk) fun h => by
            rcases h with h | h
            · exact (OW.out k hk).1 h
            · exact (OW.out k hk).2 h))
          have CP := Lib.hid (copy_any W1 bf bm bi F FA1.out.fam (famLe_of FA1.out.eqv FA1.out.nd FA1.out.ok FA1.out.its (by omega)))
          go_wp2_with (first | (go_at_call 39; refine stopAt ?_))
          unfold StopAt
          refine CP.out.mono ?_
          intro e3 W3 hcp
          obtain ⟨cg, cm, ci, G, rfl, hG, hGo, hb3⟩ := FA1.out.copied hcp
          have FG := Lib.hid hG
          have GO := Lib.hid hGo
          have B3 := Lib.hid (B1.out.trans (hb3.mono B1.out.size))
          have KA3 := Lib.hid (kept_block KA.out hb3)
          clear hcp hG hGo hb3 CP FA1 y0 y1 y2 y3 y7 hc2 hb0
          go_upto_region 11 with fail
          have RW := Lib.hid (fun (W : World) (hW : Below W3.heap.size W3 W) => (FI.out.below (B3.out.trans (hW.mono B3.out.size))).recW)
          have HS1 : Hid (∀ k, G.own cg cm ci k → wr.heap.size < k ∧ k < W3.heap.size) := Lib.hid fun k hk => ⟨by have := GO.out k hk; omega, FG.out.fam.lt hk⟩
          have hbx3 : wr.heap.size < W3.heap.size := (Array.getElem?_eq_some_iff.1 KA3.out).1
          have FA3 := Lib.hid FG.out.seenF.1
          have OK3 := Lib.hid FG.out.seenF.2.1
          have VA3 := Lib.hid FG.out.seenF.2.2
          have HK := Lib.hid (HY.out.val.key tt (List.mem_of_getElem? HT.out.1) o (List.mem_of_getElem? HT.out.2))
          have HV := Lib.hid (HY.out.val.value tt (List.mem_of_getElem? HT.out.1) o (List.mem_of_getElem? HT.out.2))
          have RF := Lib.hid (res_fit VA3.out OK3.out (by omega) t i o)
          have QV := Lib.hid (applyA_eqv FG.out.eqv FG.out.nd t i o)
          have BD : Hid (Below W3.heap.size W3 W3.drew) := Lib.hid (Below.refl _ _).drew
          have BE : Hid (Below W3.heap.size W3 (W3.alloc (.cells #[.int .i64 0, .bool false, .int .u64 0, .string ⟨#[]⟩, .int .i64 0, .int .i64 0, .int .i64 0, .bool false] 45)).drew) := Lib.hid (balZ (Below.refl _ _) _).drew
          have ZE : Hid ((W3.alloc (.cells #[.int .i64 0, .bool false, .int .u64 0, .string ⟨#[]⟩, .int .i64 0, .int .i64 0, .int .i64 0, .bool false] 45)).drew.heap[W3.heap.size]? = some (.cells #[.int .i64 0, .bool false, .int .u64 0, .string ⟨#[]⟩, .int .i64 0, .int .i64 0, .int .i64 0, .bool false] 45 (0, 0))) := Lib.hid (heap_alloc W3 _).1
          have OPC := Lib.hid (fun (W : World) (hW : Below W3.heap.size W3 W) => (lop_any W rb ts _ (RW.out W hW).at_ (RW.out W hW).fit t i tt o HT.out.1 HT.out.2))
          have APC := Lib.hid (fun (W : World) (hW : Below W3.heap.size W3 W) => apply_A W cg cm ci G.abs (G.own cg cm ci) N (by omega) (FA3.out.below hW) OK3.out t i o HK.out)
          have KP : Hid (∀ W, W.heap[wr.heap.size]? = some (opBox ((t : Int), (i : Int))) → Below wr.heap.size wr W → (W.cell? ⟨wr.heap.size, 0, none⟩ = some (.int .i64 t) ∧ W.cell? ⟨wr.heap.size, 1, none⟩ = some (.int .i64 i)) ∧ W.cell? ⟨wN.heap.size + 1, 0, none⟩ = some (.pointer (some ⟨rb, 0, none⟩))) := Lib.hid fun W h hW => ⟨opBox_cells h, (CB.out W (FI.out.below hW)).1⟩
          have KX : Hid (∀ W, Below W3.heap.size W3 W → (W.cell? ⟨wr.heap.size, 0, none⟩ = some (.int .i64 t) ∧ W.cell? ⟨wr.heap.size, 1, none⟩ = some (.int .i64 i)) ∧ W.cell? ⟨wN.heap.size + 1, 0, none⟩ = some (.pointer (some ⟨rb, 0, none⟩))) := Lib.hid fun W hW => KP.out W (opBox_kept KA3.out hW) (B3.out.trans (hW.mono B3.out.size))
          have KY : Hid (∀ W W', Below W3.heap.size W3 W → Only (G.own cg cm ci) W W' → W'.heap[wr.heap.size]? = some (opBox ((t : Int), (i : Int)))) := Lib.hid fun W W' hW hO =>
            (hO.block _ (by have := hW.size; omega) fun hs => by have := (HS1.out _ hs).1; omega).trans (kept_block KA3.out hW)
          have KZ : Hid (∀ W W' q, Below W3.heap.size W3 W → Only (G.own cg cm ci) W W' → W3.heap.size ≤ q → W.heap[q]? = some (.cells #[.int .i64 0, .bool false, .int .u64 0, .string ⟨#[]⟩, .int .i64 0, .int .i64 0, .int .i64 0, .bool false] 45 (0, 0)) → W'.heap[q]? = some (.cells #[.int .i64 0, .bool false, .int .u64 0, .string ⟨#[]⟩, .int .i64 0, .int .i64 0, .int .i64 0, .bool false] 45 (0, 0))) := Lib.hid fun W W' q hW hO hq hz =>
            (hO.block q (Array.getElem?_eq_some_iff.1 hz).1 fun hs => by have := (HS1.out q hs).2; omega).trans hz
          have BT : Hid (∀ W W', Below W3.heap.size W3 W → Only (G.own cg cm ci) W W' → Below wr.heap.size wr W') := Lib.hid fun W W' hW hO => (B3.out.trans (hW.mono B3.out.size)).trans (hO.below (by have := hW.size; omega) fun k hk => by have := (HS1.out k hk).1; omega)
          have HFS : Hid (∀ W W' : World, Below W3.heap.size W3 W → W.heap.size ≤ W'.heap.size → ∀ k, (G.own cg cm ci k ∨ (W.heap.size ≤ k ∧ k < W'.heap.size)) → wr.heap.size ≤ k ∧ k < W'.heap.size) := Lib.hid fun W W' hW hle k hk => by
            have h1 := hW.size
            rcases hk with hk | hk
            · have := HS1.out k hk; omega
            · omega
          generalize hap : applyA G.abs (t : Int) (i : Int) o = ap at *
          obtain ⟨A1, r⟩ := ap
          have HAP := Lib.hid hap
          clear hap
          obtain ⟨re, rf, rv, rk, rc⟩ := r
          simp only [ResD.cells, OpD.val] at APC
          go_cut [14] from 71 to 82 (fun v14 wx => ResMid wr cg cm ci wr.heap.size ((t : Int), (i : Int)) A1 ⟨re, rf, rv, rk, rc⟩ v14 wx)
          case first =>
            go_region_held3 (fun W => (W.cell? ⟨wr.heap.size, 0, none⟩ = some (.int .i64 t) ∧ W.cell? ⟨wr.heap.size, 1, none⟩ = some (.int .i64 i)) ∧ W.cell? ⟨wN.heap.size + 1, 0, none⟩ = some (.pointer (some ⟨rb, 0, none⟩))) (first | with_reducible exact KX.out _ BD.out | with_reducible exact KX.out _ BE.out | with_reducible exact KX.out _ X2.out | with_reducible exact KX.out _ (balZ X2.out _) | with_reducible exact KP.out _ X3.out T8.out | with_reducible exact KP.out _ (opBox_kept X3.out (balZ (Below.refl _ _) _)) (balZ T8.out _) | with_reducible exact KP.out _ (((set8_turned _ _ _ _ _ _ _ _ _ _).block _ N2.out).trans X3.out) (RecB.turned_below T8.out (set8_turned _ _ _ _ _ _ _ _ _ _) N3.out)) (first
              | ((go_at_call 22; (with_reducible refine (OPC.out _ BD.out).mono ?_); rintro e w7 ⟨rfl, hb7⟩; (have X2 := Lib.hid (BD.out.trans (hb7.mono BD.out.size))); (have N2 := Lib.hid (show wr.heap.size ≠ w7.heap.size by have := X2.out.size; omega)); (have N3 := Lib.hid (show wr.heap.size ≤ w7.heap.size by have := X2.out.size; omega)); clear hb7))
              | ((go_at_call 22; (with_reducible refine (OPC.out _ BE.out).mono ?_); rintro e w7 ⟨rfl, hb7⟩; (have X2 := Lib.hid (BE.out.trans (hb7.mono BE.out.size))); (have N2 := Lib.hid (show wr.heap.size ≠ W3.heap.size by omega)); (have N3 := Lib.hid (show wr.heap.size ≤ W3.heap.size by omega)); (have Z2 := Lib.hid (kept_block ZE.out hb7)); clear hb7))
              | ((go_at_call 21; (with_reducible refine (APC.out _ X2.out).mono ?_); rintro e w8 ⟨rfl, hf8, ho8⟩; (have X3 := Lib.hid (KY.out _ _ X2.out ho8)); (have F8 := Lib.hid hf8); (have T8 := Lib.hid (BT.out _ _ X2.out ho8)); (have S8 := Lib.hid (HFS.out _ _ X2.out ho8.size)); (have Z8 := Lib.hid (KZ.out _ _ _ X2.out ho8 (Nat.le_refl _) Z2.out)); (have q0 := res_cells Z8.out); (have q1 := res_free Z8.out); clear hf8 ho8))
              | ((go_at_call 21; (with_reducible refine (APC.out _ X2.out).mono ?_); rintro e w8 ⟨rfl, hf8, ho8⟩; (have X3 := Lib.hid (KY.out _ _ X2.out ho8)); (have F8 := Lib.hid hf8); (have T8 := Lib.hid (BT.out _ _ X2.out ho8)); (have S8 := Lib.hid (HFS.out _ _ X2.out ho8.size)); clear hf8 ho8))
              | ((go_at_call 21; (with_reducible refine (APC.out _ (balZ X2.out _)).mono ?_); rintro e w8 ⟨rfl, hf8, ho8⟩; (have X3 := Lib.hid (KY.out _ _ (balZ X2.out _) ho8)); (have F8 := Lib.hid hf8); (have T8 := Lib.hid (BT.out _ _ (balZ X2.out _) ho8)); (have S8 := Lib.hid (HFS.out _ _ (balZ X2.out _) ho8.size)); (have Z8 := Lib.hid (KZ.out _ _ _ (balZ X2.out _) ho8 X2.out.size (heap_alloc w7 _).1)); (have q0 := res_cells Z8.out); (have q1 := res_free Z8.out); clear hf8 ho8)))
            all_goals (go_wp2_with fail; go_meet)
            · exact resMid_alloc X3.out F8.out S8.out T8.out
            · have z7 := X2.out.size
              refine resMid_set X3.out F8.out S8.out T8.out Z8.out N2.out (fun hk => ?_) (by omega)
              rcases hk with hk | hk
              · have := (HS1.out _ hk).2
                omega
              · exact absurd hk.1 (by simp)
            · have z7 := X2.out.size
              refine resMid_set X3.out F8.out S8.out T8.out Z8.out N2.out (fun hk => ?_) (by omega)
              rcases hk with hk | hk
              · have := (HS1.out _ hk).2
                omega
              · have := hk.1
                have := (Array.getElem?_eq_some_iff.1 Z2.out).1
                omega
          case rest =>
            rename World => w9
            obtain ⟨q, S2, rfl, hq, hf2, hs2, hbx2, hb2⟩ := hcut
            have Q2 := Lib.hid hq
            have FA2 := Lib.hid hf2
            have HS2 := Lib.hid hs2
            have KA4 := Lib.hid hbx2
            have BW := Lib.hid hb2
            clear hq hs2 hbx2 hb2 BD BE ZE OPC APC KX KY KZ BT HFS RW KP FA3 HS1
            obtain ⟨F2, hfa, hfb, hfc⟩ := hf2
            have FC := Lib.hid (FG.out.applied t i o HV.out hfa (by rw [hfb]; exact QV.out.2))
            have OW2 : Hid (∀ k, F2.own cg cm ci k → wr.heap.size ≤ k ∧ k < w9.heap.size) := Lib.hid fun k hk => HS2.out k (hfc k hk)
            clear hfa hfb hfc FA2 HS2 FG
            have RES := Lib.hid (show (applyA A (t : Int) (i : Int) (opAt ts ((t : Int), (i : Int)))).2.full = ⟨re, rf, rv, rk, rc, 0, 0, false⟩ by rw [HP.out, ← QV.out.1]; rfl)
            have RF2 : Hid (ResF.Fit ⟨re, rf, rv, rk, rc, 0, 0, false⟩) := RF
            have F4 := Lib.hid (FI.out.below BW.out)
            have SPC := Lib.hid (fun W (hW : Below w9.heap.size w9 W) => (lspan_any W rb ts _ (F4.out.below hW).recW.at_ (F4.out.below hW).recW.fit t i tt HT.out.1 hil).mono fun e w' (p : _ ∧ Below W.heap.size W w') => (⟨p.1, hW.trans (p.2.mono hW.size)⟩ : _ ∧ Below w9.heap.size w9 w'))
            have WF := Lib.hid (span_fit HY.out.evs ((t : Int), (i : Int)))
            have FD := Lib.hid (show fitsP s l j ((t : Int), (i : Int)) (applyA A (t : Int) (i : Int) (opAt ts ((t : Int), (i : Int)))).2 ↔ (bitP s.req j = true → (⟨re, rf, rv, rk, rc, 0, 0, false⟩ : ResF) = (spanP l ((t : Int), (i : Int))).res) by unfold fitsP; rw [RES.out])
            generalize hs : spanP l ((t : Int), (i : Int)) = sp at *
            clear hs
            obtain ⟨si, sr, ⟨e, f, v', k, c, r, x, y⟩⟩ := sp
            simp only [SpD.val] at SPC
            have FS2 := run_field_span2 si sr e f v' k c r x y
            have BD : Hid (Below w9.heap.size w9 w9.drew) := Lib.hid (Below.refl _ _).drew
            have RB := Lib.hid (and_bit s.req j hfit)
            have KC : Hid (∀ W, Below w9.heap.size w9 W → (W.cell? ⟨wr.heap.size, 0, none⟩ = some (.int .i64 t) ∧ W.cell? ⟨wr.heap.size, 1, none⟩ = some (.int .i64 i)) ∧ (W.cell? ⟨q, 0, none⟩ = some (.int .i64 re) ∧ W.cell? ⟨q, 1, none⟩ = some (.bool rf) ∧ W.cell? ⟨q, 2, none⟩ = some (.int .u64 rv) ∧ W.cell? ⟨q, 3, none⟩ = some (.string rk) ∧ W.cell? ⟨q, 4, none⟩ = some (.int .i64 rc) ∧ W.cell? ⟨q, 5, none⟩ = some (.int .i64 0) ∧ W.cell? ⟨q, 6, none⟩ = some (.int .i64 0) ∧ W.cell? ⟨q, 7, none⟩ = some (.bool false)) ∧ W.cell? ⟨wN.heap.size + 1, 0, none⟩ = some (.pointer (some ⟨rb, 0, none⟩)) ∧ W.cell? ⟨wN.heap.size + 1, 2, none⟩ = some (.int .u32 s.req)) := Lib.hid fun W hW =>
              ⟨opBox_cells (opBox_kept KA4.out hW), res_cells (kept_block Q2.out hW), (CB.out W (F4.out.below hW)).1, (CB.out W (F4.out.below hW)).2.2.1⟩
            go_upto_region 12 with fail
            by_cases hfi : fitsP s l j ((t : Int), (i : Int)) (applyA A (t : Int) (i : Int) (opAt ts ((t : Int), (i : Int)))).2
            rotate_left
            · obtain ⟨hb, hne⟩ := Classical.not_imp.1 (fun h => hfi (FD.out.2 h))
              have NF := Lib.hid hfi
              have hq1 : bits .and .u32 ((s.req : Int) / 2 ^ j) 1 = 1 := by
                rw [RB.out]
                unfold bitP at hb
                simp at hb
                omega
              have hdn := decide_eq_false hne
              clear hfi hne hb
              refine wp_region_class (C := fun W => Below w9.heap.size w9 W) (by kernel_rfl) (by kernel_rfl) BD.out ?_
              iterate 17 (first | go_big_quiet_step (fail) | (refine' wpQuiet_take (by rfl) (fun W hW => ?_) ?_; rotate_left; (obtain ⟨⟨x0, x1⟩, ⟨q0, q1, q2, q3, q4, q5, q6, q7⟩, x2, x3⟩ := KC.out W hW); go_simp; (first | rfl | (with_reducible exact SPC.out W hW)); (simp only [Act.put, List.setIfInBounds_toArray, List.set_cons_zero, List.set_cons_succ])) | ((refine wpQuiet_skip (by rfl) ?_); (simp only [Act.put, List.setIfInBounds_toArray, List.set_cons_zero, List.set_cons_succ])))
              refine' wpQuiet_take (by kernel_rfl) (fun W _ => quiet_resne (r := ⟨re, rf, rv, rk, rc, 0, 0, false⟩) (s := ⟨e, f, v', k, c, r, x, y⟩) _ _ rfl rfl rfl RF2.out WF.out) ?_
              (simp only [Act.put, List.setIfInBounds_toArray, List.set_cons_zero, List.set_cons_succ])
              rw [hdn]
              repeat (first | go_big_quiet_step (fail) | (refine' wpQuiet_take (by rfl) (fun W hW => ?_) ?_; rotate_left; (obtain ⟨⟨x0, x1⟩, ⟨q0, q1, q2, q3, q4, q5, q6, q7⟩, x2, x3⟩ := KC.out W hW); go_simp; (first | rfl | (with_reducible exact SPC.out W hW)); (simp only [Act.put, List.setIfInBounds_toArray, List.set_cons_zero, List.set_cons_succ])))
              refine wpQuiet_nil ?_
              intro w7 hb7
              have B7 := Lib.hid hb7
              clear hb7
              have NY := Lib.hid (NX.out w7 (BW.out.trans (B7.out.mono BW.out.size)) fun _ _ hf => absurd hf NF.out)
              clear hdn hq1
              go_wp2_with fail
              go_roundw
              case rel => exact NY.out
              case measure => simp [intOf]; omega
            have FI2 := Lib.hid hfi
            go_cut [101] from 83 to 100 (fun v101 wx => v101 = .bool false ∧ Below w9.heap.size w9 wx)
            case first =>
              by_cases hb : bitP s.req j = true
              · have hdn := decide_eq_true (FD.out.1 hfi hb)
                have hq1 : bits .and .u32 ((s.req : Int) / 2 ^ j) 1 = 1 := by
                  rw [RB.out]
                  unfold bitP at hb
                  simp at hb
                  omega
                clear hfi hb
                refine wp_region_class (C := fun W => Below w9.heap.size w9 W) (by kernel_rfl) (by kernel_rfl) BD.out ?_
                iterate 17 (first | go_big_quiet_step (fail) | (refine' wpQuiet_take (by rfl) (fun W hW => ?_) ?_; rotate_left; (obtain ⟨⟨x0, x1⟩, ⟨q0, q1, q2, q3, q4, q5, q6, q7⟩, x2, x3⟩ := KC.out W hW); go_simp; (first | rfl | (with_reducible exact SPC.out W hW)); (simp only [Act.put, List.setIfInBounds_toArray, List.set_cons_zero, List.set_cons_succ])) | ((refine wpQuiet_skip (by rfl) ?_); (simp only [Act.put, List.setIfInBounds_toArray, List.set_cons_zero, List.set_cons_succ])))
                refine' wpQuiet_take (by kernel_rfl) (fun W _ => quiet_resne (r := ⟨re, rf, rv, rk, rc, 0, 0, false⟩) (s := ⟨e, f, v', k, c, r, x, y⟩) _ _ rfl rfl rfl RF2.out WF.out) ?_
                (simp only [Act.put, List.setIfInBounds_toArray, List.set_cons_zero, List.set_cons_succ])
                rw [hdn]
                repeat (first | go_big_quiet_step (fail) | (refine' wpQuiet_take (by rfl) (fun W hW => ?_) ?_; rotate_left; (obtain ⟨⟨x0, x1⟩, ⟨q0, q1, q2, q3, q4, q5, q6, q7⟩, x2, x3⟩ := KC.out W hW); go_simp; (first | rfl | (with_reducible exact SPC.out W hW)); (simp only [Act.put, List.setIfInBounds_toArray, List.set_cons_zero, List.set_cons_succ])))
                refine wpQuiet_nil ?_
                intro w7 hb7
                have B7 := Lib.hid hb7
                clear hb7
                clear hdn hq1
                go_wp2_with fail
                go_meet
                exact ⟨rfl, B7.out⟩
              · have hq1 : bits .and .u32 ((s.req : Int) / 2 ^ j) 1 = 0 := by
                  rw [RB.out]
                  unfold bitP at hb
                  simp at hb
                  omega
                clear hfi hb
                refine wp_region_class (C := fun W => Below w9.heap.size w9 W) (by kernel_rfl) (by kernel_rfl) BD.out ?_
                repeat (first | go_big_quiet_step (fail) | (refine' wpQuiet_take (by rfl) (fun W hW => ?_) ?_; rotate_left; (obtain ⟨⟨x0, x1⟩, ⟨q0, q1, q2, q3, q4, q5, q6, q7⟩, x2, x3⟩ := KC.out W hW); go_simp; (first | rfl | (with_reducible exact SPC.out W hW)); (simp only [Act.put, List.setIfInBounds_toArray, List.set_cons_zero, List.set_cons_succ])) | ((refine wpQuiet_skip (by rfl) ?_); (simp only [Act.put, List.setIfInBounds_toArray, List.set_cons_zero, List.set_cons_succ])))
                refine wpQuiet_nil ?_
                intro w7 hb7
                have B7 := Lib.hid hb7
                clear hb7
                clear hq1
                go_wp2_with fail
                go_meet
                exact ⟨rfl, B7.out⟩
            case rest =>
              obtain ⟨rfl, hb7⟩ := hcut
              have BW7 := Lib.hid (BW.out.trans (hb7.mono BW.out.size))
              have FC7 := Lib.hid (FC.out.keep fun k hk => hb7.block k (OW2.out k hk).2)
              have OW7 : Hid (∀ k, F2.own cg cm ci k → wr.heap.size ≤ k ∧ k < wc.heap.size) := Lib.hid fun k hk => ⟨(OW2.out k hk).1, Nat.lt_of_lt_of_le (OW2.out k hk).2 hb7.size⟩
              have KA7 := Lib.hid (kept_block KA4.out hb7)
              have F7 := Lib.hid (FI.out.below BW7.out)
              have L7 : Hid (LsAt wB.heap.size wc v L) := Lib.hid (row_keep LI.out fun g hg => BW7.out.block g (row_lt LI.out hg))
              have hszB := FI.out.size
              have HV2 : Hid (∀ k, v.ownBlock = some k → wB.heap.size ≤ k ∧ k < wr.heap.size) := Lib.hid fun k hk => ⟨(row_kind LI.out hk).1, row_lt LI.out hk⟩
              clear hb7 KC SPC FS2 RF2 WF FD RB BD BW FC OW2 KA4 F4 Q2
              obtain ⟨Sn, hSn⟩ : ∃ Sn, Sn = S ||| 2 ^ j := ⟨_, rfl⟩
              have hor1 : bits .or .u32 (S : Int) (2 ^ j % 4294967296) = (Sn : Int) := by rw [hSn]; exact or_pow S j (by omega) (by omega)
              have hor2 : bits .or .u32 (S : Int) (IntKind.u32.wrap (2 ^ j)) = (Sn : Int) := by rw [IntKind.wrap_u32]; exact hor1
              have hgr : S < Sn := by rw [hSn]; exact or_grows (by simpa using hbit)
              have hSn16 : Sn < 65536 := by rw [hSn]; exact or_lt16 hS (by omega)
              have IHC : Hid (∀ (w8 : World) (v8 : Value), LsAt wB.heap.size w8 v8 (L ++ [((t : Int), (i : Int))]) → (FrAt wN wB w8 rb ts l s D ∧ FaAt (N + 1) (applyA A (t : Int) (i : Int) o).1 w8 cg cm ci F2 ∧ ∀ k, F2.own cg cm ci k → k ≠ wN.heap.size ∧ v8.ownBlock ≠ some k) →
                  Calls Tryz.prog 17 #[.pointer (some ⟨wN.heap.size + 1, 0, none⟩), .int .u32 Sn, .pointer (some ⟨cg, 0, none⟩), v8] w8 (FrPost wB.heap.size wN.heap.size D w8 v8 (L ++ [((t : Int), (i : Int))]) s ts l Sn (applyA A (t : Int) (i : Int) o).1 E)) := Lib.hid fun w8 v8 h1 h2 =>
                IH.out w8 Sn _ (N + 1) cg cm ci F2 v8 _ (by omega) hSn16 (by omega) (by rw [List.length_append]; simp; omega) h2.1 h2.2.1 h1 h2.2.2 fun hE => by
                  rw [hSn]
                  have := HY.out.next hE S j A ((t : Int), (i : Int)) (RR.out hE) HA.out OPN.out FI2.out
                  rw [HP.out] at this
                  exact this
              have HSn := Lib.hid hSn
              clear hSn
              obtain ⟨x0, x1⟩ := opBox_cells KA7.out
              simp only at x0 x1
              go_upto_region 13 with fail
              go_region_law (first
                | ((refine step_list rfl _ _ rfl (w7 := wc) _ L7.out (by first | exact balZ (Below.refl _ _) _ | exact (balZ (Below.refl _ _) _).drew) rfl ⟨wc.heap.size, 0, none⟩ rfl ((t : Int), (i : Int)) (by exact opC2_box (heap_alloc wc _).1) (by omega) F7.out.size ?_); rintro v8 w8 ⟨ha8, hb8, hg8, ht8⟩; (have A8 := Lib.hid ha8); (have B8 := Lib.hid hb8); (have G8 := Lib.hid hg8); (have T8 := Lib.hid ht8); (have N8 := Lib.hid (from_next F7.out FC7.out OW7.out hszB HV2.out (by first | exact balZ (Below.refl _ _) _ | exact (balZ (Below.refl _ _) _).drew) hg8 ht8)); clear ha8 hb8 hg8 ht8)
                | (go_simp; go_at_call 17; (refine (IHC.out _ _ A8.out N8.out).mono ?_); rintro e3 w3 ⟨ho3, hl3, hm3, A3, n3, c3, b3, rfl, hn3, hy3⟩; (have K3 := Lib.hid (from_back N8.out.1 FI.out OI.out LI.out KI.out BW7.out (by first | exact balZ (Below.refl _ _) _ | exact (balZ (Below.refl _ _) _).drew) G8.out T8.out B8.out hl3 A8.out ho3 hm3)); (have Y3 := Lib.hid hn3); (have Y4 := Lib.hid hy3); clear ho3 hl3 hm3 hn3 hy3))
              cases b3 with
              | true =>
                have PP : Hid (FrPost wB.heap.size wN.heap.size D w v L s ts l S A E (.returned (.tuple #[.slice A3 n3 c3, .bool true])) w3) := by
                  obtain ⟨o3, hn, hsol, hord, hle⟩ := Y4.out rfl
                  exact Lib.hid (.yes K3.out.2.2.1 K3.out.2.1 K3.out.1.memo hn (.step FU.out HA.out OPN.out FI2.out (by rw [← HSn.out, HP.out]; exact hsol)) hord hle)
                go_wp2_with fail
                refine bodyPost_ret (v := .tuple #[.slice A3 n3 c3, .bool true]) (by simp [results, Tryz.results17, go_sem]) rfl PP.out
              | false =>
                have RJ : Hid (FrRel wN wB w rb kb ts l s D E v L S A str (.int .i64 ((j : Int) + 1)) w3) := by
                  obtain ⟨_, _, _, hnw⟩ := Y3.out rfl
                  exact Lib.hid ⟨j + 1, by omega, by go_num, K3.out.1, K3.out.2.1, K3.out.2.2.1, K3.out.2.2.2, fun hE k a hk ha => by
                    by_cases hkj : k = j
                    · subst hkj
                      rw [HA.out] at ha
                      obtain rfl := Option.some.inj ha
                      intro _ _
                      rw [← HSn.out, HP.out]
                      exact hnw hE
                    · exact NO.out hE k a (by omega) ha⟩
                go_wp2_with fail
                go_roundw
                case rel => exact RJ.out
                case measure => simp [intOf]; omega
        · have hje : j = s.cands.length := by omega
          have NW : Hid (E → ¬ WinP s ts l S A) := Lib.hid fun hE hw => by
            cases hw with
            | done h => exact FU.out h
            | step ha hc hr hw => exact NO.out hE _ _ (by rw [hje]; exact (List.getElem?_eq_some_iff.1 ha).1) ha hc hr hw
          have FD := Lib.hid (FI.out.below (Below.refl wr.heap.size wr).drew)
          obtain ⟨w', hrun, hme, htu⟩ := FD.out.memo.add S str MF.out (HY.out.mkD S fun hE A' hA' hw => NW.out hE (HY.out.same hE S A A' (RR.out hE) hA' hw))
          have PP : Hid (FrPost wB.heap.size wN.heap.size D w v L s ts l S A E (.returned (.tuple #[.slice none 0 0, .bool false])) w') := by
            have ho : Only (FrS wN.heap.size v) wr w' := ⟨htu.os, htu.tape, htu.output, by rw [htu.size]; exact Nat.le_refl _, fun k hk hn => htu.block k fun e => hn (Or.inl e)⟩
            exact Lib.hid (.no (OI.out.trans ho fun k hk => Or.inl hk) (row_keep LI.out fun g hg => htu.block g fun e => by
              have h1 := (row_kind LI.out hg).1
              have h2 := FI.out.fm
              omega) hme NW.out)
          clear hje hme htu
          obtain ⟨y0, y1, y2, y3, y7⟩ := CB.out wr FI.out
          have x0 := blk_cell KI.out 0
          have x1 := blk_cell KI.out 1
          simp only [List.getElem?_toArray, List.getElem?_cons_zero, List.getElem?_cons_succ] at x0 x1
          go_wp2_with fail
          go_region
          go_wp2_with fail
          refine bodyPost_ret (v := .tuple #[.slice none 0 0, .bool false]) (by simp [results, Tryz.results17, go_sem]) rfl PP.out
theorem from_any (wN wB : World) (rb : Nat) (ts : List (List OpD)) (l : List EvD) (s : SrD) (D : Nat → Prop) (E : Prop) (R : Nat → AFam → Prop) (HY : FrHyp ts l s D E R) : ∀ m, FrSpec wN wB rb ts l s D E R m
  | 0 => fun w S A N bf bm bi F v L hm hS => absurd hm (by omega)
  | m + 1 => from_step wN wB rb ts l s D E R HY m (from_any wN wB rb ts l s D E R HY m)
end Go.Proofs.YtbmoehndnbbhcaaGreatDoor
