/- The walk of the reference's take: an operation; take as a whole. The walk of the reference's Parse. The words of the law, and arguments of type []uint8. The walk of the law's parses. The walk of ScriptParses. -/
import Derived.Test.YtnoeiaicligmiaaDoorSPOne
import Derived.Test.YtnoeiaicligmiaaDoorSPrs
import Derived.Test.YtnoeiaicligmiaaDoorSFrame
import Derived.Test.YtnoeiaicligmiaaDoorSAw
import Derived.Test.YtnoeiaicligmiaaDoorSRet
import Derived.Deep.RegionLaw
import Derived.Deep.DeepCutAuto
import Derived.Deep.CutBlock
namespace Go.Proofs.YtnoeiaicligmiaaDoor
set_option linter.unusedVariables false
set_option linter.unusedSimpArgs false
open Go Go.RowKit
theorem bop_new {B : Nat} {w0 W w6 : World} {P : Nat} {st : PS} {vp u u' : Value} {us : List Value} {g gc : Nat} {ts : List (List OpD)} {t : List OpD} (h : BoxAt B w0 W P st (.slice (some ⟨g, 0, none⟩) us.length gc) vp us) (hts : st.scr.threads = ts ++ [t]) (hu : us[ts.length]? = some u)
    {n0 n1 : Int} {k : ByteArray} {n3 n4 : Int} {T : TypeId} (hr : W.ownsRow B 39 5 u t.length (t.flatMap opC)) (hg : (W.alloc (.cells #[.int .i64 n0, .int .i64 n1, .string k, .int .u64 n3, .int .u64 n4] T)).drew.grownBy w6 u.ownBlock)
    (hown : w6.ownsRow B 39 5 u' (t.length + 1) (t.flatMap opC ++ [.int .i64 n0, .int .i64 n1, .string k, .int .u64 n3, .int .u64 n4])) (hnew : ∀ b, u'.ownBlock = some b → u.ownBlock = some b ∨ (W.alloc (.cells #[.int .i64 n0, .int .i64 n1, .string k, .int .u64 n3, .int .u64 n4] T)).drew.heap.size ≤ b) :
    BoxAt B w0 (w6.setCell ⟨g, ts.length, none⟩ u') P { st with scr := { st.scr with threads := addOp st.scr.threads ⟨n0, n1, k, n3, n4⟩ } } (.slice (some ⟨g, 0, none⟩) us.length gc) vp (us.set ts.length u') := by
  have ha : Below W.heap.size W (W.alloc (.cells #[.int .i64 n0, .int .i64 n1, .string k, .int .u64 n3, .int .u64 n4] T)).drew := ((Below.refl _ _).alloc (Nat.le_refl _) _).drew
  exact (h.above ha).op hts hu hg ⟨n0, n1, k, n3, n4⟩ hown hnew
theorem opR_none {st : PS} {ws : List (List UInt8)} (h : readOp ws = none) : opR st ws = none := by unfold opR; rw [h]
theorem opR_some {st : PS} {ws : List (List UInt8)} {o : OpD} (h : readOp ws = some o) (ht : st.scr.threads ≠ []) : opR st ws = some { st with scr := { st.scr with threads := addOp st.scr.threads o } } := by
  unfold opR; rw [h]; simp only [if_neg ht]
set_option maxRecDepth 100000 in
set_option maxHeartbeats 4000000 in
theorem rtake_op (B : Nat) (w0 w : World) (P : Nat) (st : PS) (vt vp : Value) (us : List Value) (h : BoxAt B w0 w P st vt vp us) (hd : st.done = false) (i : Int) (hi : (i == 0) = false) (x : List UInt8) (ws : List (List UInt8)) (hx0 : ws[0]? = some x) (hT : takeL st ws = opR st ws) (b cap : Nat) (h2 : x ≠ picksW) (h1 : ws.length ≠ 1 ∨ x ≠ threadW)
    (hx : ∀ x ∈ ws, x.length ≤ 1048576) (hw : WordsIn w b 0 ws) (hn : ws.length ≤ 1048577) (ht : st.scr.threads.length ≤ 1048576) (htt : ∀ t ∈ st.scr.threads, t.length ≤ 1048576) :
    Calls Tryd.prog 45 #[.pointer (some ⟨P, 0, none⟩), .int .i64 i, .slice (some ⟨b, 0, none⟩) ws.length cap, .bool false] w (TakePost B w0 P (takeL st ws)) := by
  have hl0 : 0 < ws.length := (List.getElem?_eq_some_iff.1 hx0).1
  have c0 : w.cell? ⟨b, 0, none⟩ = some (.string ⟨x.toArray⟩) := (hw hl0).2 0 x hx0
  have s2 : (x == [112, 105, 99, 107, 115]) = false := by simpa [picksW] using h2
  have OP := Lib.hid (ropn_any w b 0 cap (some ⟨b, 0, none⟩) ws (fun _ => rfl) hx hw hn)
  have TT := Lib.hid hT
  have H := Lib.hid h
  have HD := Lib.hid hd
  have HTT := Lib.hid htt
  have hl1 : (1 : Int) ≤ ws.length := by omega
  have key : (((ws.length : Int) == 1) = false) ∨ (((ws.length : Int) == 1) = true ∧ (x == [116, 104, 114, 101, 97, 100]) = false) := by
    by_cases hl : ws.length = 1
    · exact Or.inr ⟨by simp; omega, by simpa [threadW] using h1.resolve_left (by simp [hl])⟩
    · exact Or.inl (by simp; omega)
  clear h hd hx0 hT h2 h1 hx hw htt
  rcases key with hk | ⟨hk, s1⟩
  all_goals
    go_enter Tryd.func45, Tryd.ntmps45
    go_wp2_with fail
    with_reducible refine OP.out.mono ?_
    rintro e w1 ⟨o, bb, rfl, hyes, hno, hb⟩
    have H1 := Lib.hid (H.out.above hb)
    obtain ⟨a1, cc1, hv⟩ := row_form H1.out.thr
    subst hv
    have YES := Lib.hid hyes
    have NO := Lib.hid hno
    have hP := H1.out.lt
    have y1 : w1.cell? ⟨P, 1, none⟩ = some (.slice a1 us.length cc1) := H1.out.cell 1
    have hul : us.length ≤ 1048576 := by rw [H1.out.hus]; exact ht
    clear hyes hno hb
    cases bb
    · go_wp2_with fail
      go_ret2
      exact TakePost.no (TT.out.trans (opR_none (by simpa using NO.out))) ((H1.out.below.alloc H1.out.size _))
    · by_cases hu0 : us.length = 0
      · have hz : st.scr.threads = [] := List.eq_nil_of_length_eq_zero (by rw [← H1.out.hus]; exact hu0)
        have NT := Lib.hid (show opR st ws = none from opR_empty hz)
        have hu1 : (us.length : Int) = 0 := by omega
        have hu2 : decide ((0 : Int) < (us.length : Int)) = false := decide_eq_false (by omega)
        have hu3 : decide (0 < us.length) = false := decide_eq_false (by omega)
        clear hz
        go_wp2_with fail
        go_ret2
        exact TakePost.no (TT.out.trans NT.out) ((H1.out.below.alloc H1.out.size _))
      · have hu2 : decide ((0 : Int) < (us.length : Int)) = true := decide_eq_true (by omega)
        have hu3 : decide (0 < us.length) = true := decide_eq_true (by omega)
        have hu4 : 0 < us.length := by omega
        have hne : st.scr.threads ≠ [] := by
          intro h
          have := H1.out.hus
          rw [h, List.length_nil] at this
          omega
        obtain ⟨ts, t, hts⟩ := split_last _ hne
        have hlen : us.length = ts.length + 1 := by rw [H1.out.hus, hts]; simp
        have RES := Lib.hid (TT.out.trans (opR_some (o := o) (by simpa using YES.out) hne))
        obtain ⟨g, gc, hg⟩ := row_some H1.out.thr hu4
        simp only [Value.slice.injEq, true_and] at hg
        obtain ⟨rfl, rfl⟩ := hg
        have hlt : t.length ≤ 1048576 := HTT.out t (by rw [hts]; simp)
        have HT := Lib.hid hts
        have HL := Lib.hid hlen
        have hsub : (us.length : Int) - 1 = (ts.length : Int) := by omega
        have hsub2 : IntKind.i64.wrap ((us.length : Int) - 1) = (ts.length : Int) := by rw [hsub]; exact IntWalk.i64_in _ (by omega)
        have htl : ts.length ≤ 1048576 := by omega
        have hsub3 : IntKind.i64.wrap (ts.length : Int) = (ts.length : Int) := IntWalk.i64_in _ (by omega)
        clear hts hne hlen
        go_upto_region 19 with fail
        have s5 : Below w1.heap.size w1 (w1.alloc (.cells #[.int .i64 o.kind, .int .i64 o.handle, .string o.key, .int .u64 o.value, .int .u64 o.expect] 39)) := (Below.refl _ _).alloc (Nat.le_refl _) _
        have b5 := (MapKept.heap_alloc w1 (.cells #[.int .i64 o.kind, .int .i64 o.handle, .string o.key, .int .u64 o.value, .int .u64 o.expect] 39)).1
        generalize hW : w1.alloc (.cells #[.int .i64 o.kind, .int .i64 o.handle, .string o.key, .int .u64 o.value, .int .u64 o.expect] 39) = W at s5 b5 ⊢
        clear hW y1
        have H5 := Lib.hid (H1.out.above s5)
        obtain ⟨u, hu⟩ : ∃ u, us[ts.length]? = some u := ⟨_, List.getElem?_eq_getElem (by have := HL.out; omega)⟩
        have hu5 := H5.out.ops _ _ _ hu (by rw [HT.out]; simp : st.scr.threads[ts.length]? = some t)
        obtain ⟨ua, uc, rfl⟩ := row_form hu5
        have U5 := Lib.hid hu5
        have HU := Lib.hid hu
        have hgz : g < W.heap.size := row_lt H5.out.thr rfl
        have hPz : P < W.heap.size := H5.out.lt
        have hQz : w1.heap.size < W.heap.size := (Array.getElem?_eq_some_iff.1 b5).1
        have y1 : W.cell? ⟨P, 1, none⟩ = some (.slice (some ⟨g, 0, none⟩) us.length cc1) := H5.out.cell 1
        have y2 : W.cell? ⟨g, ts.length, none⟩ = some (.slice ua t.length uc) := bthr_at H5.out hu
        have yf : W.frozen? ⟨g, ts.length, none⟩ = false := bthr_frozen H5.out _
        have o0 : W.cell? ⟨w1.heap.size, 0, none⟩ = some (.int .i64 o.kind) := blk_cell b5 0
        have o1 : W.cell? ⟨w1.heap.size, 1, none⟩ = some (.int .i64 o.handle) := blk_cell b5 1
        have o2 : W.cell? ⟨w1.heap.size, 2, none⟩ = some (.string o.key) := blk_cell b5 2
        have o3 : W.cell? ⟨w1.heap.size, 3, none⟩ = some (.int .u64 o.value) := blk_cell b5 3
        have o4 : W.cell? ⟨w1.heap.size, 4, none⟩ = some (.int .u64 o.expect) := blk_cell b5 4
        have j0 : (0 : Int) ≤ (ts.length : Int) := by omega
        have j1 : (ts.length : Int) < us.length := by have := HL.out; omega
        clear hu hu5 s5 b5
        go_cut [] (fun wx => Box B w0 wx P { st with scr := { st.scr with threads := addOp st.scr.threads o } })
        case first =>
          go_region_law ((refine step_op rfl _ _ rfl B _ _ _ _ (U5.out.alloc _).drew rfl ⟨W.heap.size, 0, none⟩ rfl [.int .i64 o.kind, .int .i64 o.handle, .string o.key, .int .u64 o.value, .int .u64 o.expect] rfl (five_new W _ _ _ _ _ _) (five_one _ _ _ _ _) (Nat.le_trans H5.out.size (by simp)) hlt ?_); intro a6 c6 w6 ho6 hg6 hn6; (have O6 := Lib.hid ho6); (have G6 := Lib.hid hg6); (have N6 := Lib.hid hn6); (have z1 := (World.cell?_of_block (a := ⟨P, 1, none⟩) (grown_drew G6.out hPz (row_ne U5.out H5.out.par (by decide)))).trans y1); (have z2 := (World.cell?_of_block (a := ⟨g, ts.length, none⟩) (grown_drew G6.out hgz (bthr_other H5.out U5.out))).trans y2); (have zf := (World.frozen?_of_block (a := ⟨g, ts.length, none⟩) (grown_drew G6.out hgz (bthr_other H5.out U5.out))).trans yf); clear ho6 hg6 hn6)
          all_goals
            have NEW := Lib.hid (bop_new H5.out HT.out HU.out U5.out G6.out O6.out N6.out)
            clear z1 z2 zf y1 y2 yf o0 o1 o2 o3 o4
            go_wp2_with fail
            go_meet
            exact ⟨_, _, _, NEW.out⟩
        case rest =>
          have HC := Lib.hid hcut
          clear hcut y1 y2 yf o0 o1 o2 o3 o4
          go_wp2_with fail
          go_ret2
          exact TakePost.yes RES.out HD.out HC.out
theorem readInt_thread : readInt threadW = none := rfl
theorem take_opR {st : PS} (hd : st.done = false) (hm : st.masked = true) (x : List UInt8) (r : List (List UInt8)) (h1 : r ≠ [] ∨ x ≠ threadW) (h2 : x ≠ picksW) : takeL st (x :: r) = opR st (x :: r) := by
  by_cases hx : x = threadW
  · subst hx
    have hr : r ≠ [] := h1.resolve_right (by simp)
    rw [takeL_thread hd hm, if_neg (by cases r with | nil => exact absurd rfl hr | cons a b => simp)]
    refine (opR_none ?_).symm
    unfold readOp
    split
    · next a b k v y h =>
      simp only [List.cons.injEq] at h
      rw [← h.1, readInt_thread]
    · rfl
  · exact takeL_op hd hm x r hx h2
theorem rtake_any (B : Nat) (w0 w : World) (P : Nat) (st : PS) (vt vp : Value) (us : List Value) (h : BoxAt B w0 w P st vt vp us) (i : Nat) (hm : st.masked = true ↔ i ≠ 0) (ws : List (List UInt8)) (b cap : Nat) (hcap : ws.length ≤ cap)
    (hx : ∀ x ∈ ws, x.length ≤ 1048576) (h0 : 0 < ws.length) (hw : WordsIn w b 0 ws) (hn : ws.length ≤ 1048577) (ht : st.scr.threads.length ≤ 1048576) (htt : ∀ t ∈ st.scr.threads, t.length ≤ 1048576) :
    Calls Tryd.prog 45 #[.pointer (some ⟨P, 0, none⟩), .int .i64 i, .slice (some ⟨b, 0, none⟩) ws.length cap, .bool st.done] w (TakePost B w0 P (takeL st ws)) := by
  have hwa := words_at hw h0 hx
  cases hd : st.done with
  | true => exact rtake_done B w0 w P st vt vp us h hd _ ws _
  | false =>
    by_cases hi : i = 0
    · subst hi
      have hmf : st.masked = false := by
        cases hq : st.masked with
        | false => rfl
        | true => exact absurd rfl (hm.1 hq)
      exact rtake_mask B w0 w P st vt vp us h hd hmf ws b 0 cap hwa hn
    · have hmt := hm.2 hi
      have hib : ((i : Int) == 0) = false := by simp; omega
      match ws, h0 with
      | x :: r, _ =>
        by_cases h2 : x = picksW
        · subst h2
          exact rtake_picks B w0 w P st vt vp us h hd hmt _ hib r b cap (by simpa using hcap) hx hw (by simp at hn; omega)
        · by_cases h1 : r = [] ∧ x = threadW
          · obtain ⟨rfl, rfl⟩ := h1
            exact rtake_thread B w0 w P st vt vp us h hd hmt _ hib b 0 cap hwa ht
          · have h1' : r ≠ [] ∨ x ≠ threadW := by
              by_cases hr : r = []
              · exact Or.inr fun hx => h1 ⟨hr, hx⟩
              · exact Or.inl hr
            exact rtake_op B w0 w P st vt vp us h hd _ hib x (x :: r) rfl (take_opR hd hmt x r h1' h2) b cap h2 (h1'.imp (fun h => by cases r with | nil => exact absurd rfl h | cons a b => simp) id) hx hw hn ht htt
end Go.Proofs.YtnoeiaicligmiaaDoor
namespace Go.Proofs.YtnoeiaicligmiaaDoor
set_option linter.unusedVariables false
set_option linter.unusedSimpArgs false
open Go Go.RowKit
theorem takeL_masked {st st' : PS} {ws : List (List UInt8)} (h : takeL st ws = some st') : st'.masked = true := by
  unfold takeL at h
  split at h
  · simp at h
  · split at h
    · split at h
      · split at h
        · split at h
          · simp only [Option.some.injEq] at h; subst h; rfl
          · simp at h
        · simp at h
      · simp at h
    · next hm =>
      have hm' : st.masked = true := by simpa using hm
      split at h
      · split at h
        · simp only [Option.some.injEq] at h; subst h; exact hm'
        · simp at h
      · split at h
        · split at h
          · simp only [Option.some.injEq] at h; subst h; exact hm'
          · simp at h
        · split at h
          · split at h
            · simp at h
            · simp only [Option.some.injEq] at h; subst h; exact hm'
          · simp at h
theorem lines_len (l : List UInt8) : (∀ x ∈ (linesOf l).1, x.length ≤ l.length) ∧ (linesOf l).2.length ≤ l.length := by
  induction l with
  | nil => simp [linesOf]
  | cons b r ih =>
    unfold linesOf
    split
    · refine ⟨fun x hx => ?_, by have := ih.2; simp; omega⟩
      simp only [List.mem_cons] at hx
      rcases hx with rfl | hx
      · simp
      · have := ih.1 x hx; simp; omega
    · split
      · exact ⟨by simp, by have := ih.2; simp; omega⟩
      · next y ys hy =>
        rw [hy] at ih
        refine ⟨fun x hx => ?_, by have := ih.2; simp; omega⟩
        simp only [List.mem_cons] at hx
        rcases hx with rfl | hx
        · have := ih.1 y (by simp); simp; omega
        · have := ih.1 x (by simp [hx]); simp; omega
/-- the lines with the rest, as the reference reads them -/
def LinesR (l : List UInt8) (L : List (List UInt8)) (whole : Bool) : Prop :=
  (linesOf l).2 = [] ∧ whole = true ∧ L = (linesOf l).1 ∨ (linesOf l).2 ≠ [] ∧ whole = false ∧ L = (linesOf l).1 ++ [(linesOf l).2]
theorem LinesR.len {l : List UInt8} {L : List (List UInt8)} {wh : Bool} (h : LinesR l L wh) : ∀ x ∈ L, x.length ≤ l.length := fun x hx => by
  rcases h with ⟨_, _, rfl⟩ | ⟨_, _, rfl⟩
  · exact (lines_len l).1 x hx
  · simp only [List.mem_append, List.mem_singleton] at hx
    rcases hx with hx | rfl
    · exact (lines_len l).1 x hx
    · exact (lines_len l).2
theorem take_step {L : List (List UInt8)} {n : Nat} {x : List UInt8} {st st' : PS} (h : takeAll st0 (L.take n) 0 = .inl st) (hx : L[n]? = some x) (ht : takeL st (words x) = some st') : takeAll st0 (L.take (n + 1)) 0 = .inl st' := by
  rw [List.take_add_one, hx]
  simp only [Option.toList_some]
  rw [takeAll_append _ _ _ _ _ h]
  simp only [takeAll, ht]
theorem take_bad {L : List (List UInt8)} {n : Nat} {x : List UInt8} {st : PS} (h : takeAll st0 (L.take n) 0 = .inl st) (hx : L[n]? = some x) (ht : takeL st (words x) = none) : takeAll st0 L 0 = .inr (n + 1) := by
  have hn := (List.getElem?_eq_some_iff.1 hx).1
  have e : L = L.take n ++ L.drop n := (List.take_append_drop n L).symm
  have e2 : L.drop n = x :: L.drop (n + 1) := by
    obtain ⟨hj, hh⟩ := List.getElem?_eq_some_iff.1 hx
    rw [List.drop_eq_getElem_cons hj, hh]
  rw [e, takeAll_append _ _ _ _ _ h, e2]
  simp only [takeAll, ht, List.length_take, Nat.min_eq_left (Nat.le_of_lt hn), Nat.zero_add]
theorem fail_none {l : List UInt8} {L : List (List UInt8)} {wh : Bool} (hl : l.length ≤ 1048576) (hL : LinesR l L wh) {n : Nat} {x : List UInt8} {st : PS} (h : takeAll st0 (L.take n) 0 = .inl st) (hx : L[n]? = some x) (ht : takeL st (words x) = none) : parseS l = (ScrD.nil, (n : Int) + 1, 4) := by
  rcases hL with ⟨h2, _, rfl⟩ | ⟨h2, _, rfl⟩
  · have := parse_bad hl (take_bad h hx ht)
    rw [this]
    simp
  · by_cases hn : n < (linesOf l).1.length
    · rw [List.take_append_of_le_length (by omega)] at h
      rw [List.getElem?_append_left hn] at hx
      have := parse_bad hl (take_bad h hx ht)
      rw [this]
      simp
    · have hn2 := (List.getElem?_eq_some_iff.1 hx).1
      simp only [List.length_append, List.length_cons, List.length_nil] at hn2
      obtain rfl : n = (linesOf l).1.length := by omega
      rw [List.take_left] at h
      exact parse_open hl h (Or.inl h2) rfl
theorem fail_open {l : List UInt8} {L : List (List UInt8)} (hl : l.length ≤ 1048576) (hL : LinesR l L false) {n : Nat} {st : PS} (h : takeAll st0 (L.take n) 0 = .inl st) (hn : n + 1 = L.length) : parseS l = (ScrD.nil, (n : Int) + 1, 4) := by
  rcases hL with ⟨_, hw, _⟩ | ⟨h2, _, rfl⟩
  · exact absurd hw (by simp)
  · simp only [List.length_append, List.length_cons, List.length_nil] at hn
    obtain rfl : n = (linesOf l).1.length := by omega
    rw [List.take_left] at h
    exact parse_open hl h (Or.inl h2) rfl
def RPrsRel (w1 : World) (L : List (List UInt8)) (wh : Bool) (d i : Value) (wr : World) : Prop :=
  ∃ (n : Nat) (st : PS), i = .int .i64 n ∧ d = .bool st.done ∧ n ≤ L.length ∧ takeAll st0 (L.take n) 0 = .inl st ∧ (st.masked = true ↔ n ≠ 0) ∧ Small n st ∧ (wh = false → n < L.length) ∧ Box w1.heap.size w1 wr w1.heap.size st
theorem rbox_start (w1 : World) : Box w1.heap.size w1 (w1.alloc boxO) w1.heap.size st0 :=
  ⟨.slice none 0 0, .slice none 0 0, [], Nat.le_refl _, (MapKept.heap_alloc w1 boxO).1,
    World.ownsRow_nil _ _ _ _, rfl, fun i u t hu => by simp at hu, fun i j u v b hu => by simp at hu, World.ownsRow_nil _ _ _ _, (Below.refl _ _).alloc (Nat.le_refl _) _, by simp⟩
set_option maxRecDepth 100000 in
set_option maxHeartbeats 4000000 in
theorem rparse_any (w : World) (l : List UInt8) (hlen : l.length ≤ 4611686018427387904) :
    Calls Tryd.prog 32 #[.string ⟨l.toArray⟩] w (ParsePost w l) := by
  have hsz : (⟨l.toArray⟩ : ByteArray).size = l.length := by simp [ByteArray.size]
  by_cases hl : 1048576 < l.length
  · have T := Lib.hid (parse_long hl)
    have hd : (1048576 : Int) < ((⟨l.toArray⟩ : ByteArray).size : Int) := by rw [hsz]; omega
    have HZ := Lib.hid hsz
    clear hlen hsz
    go_enter Tryd.func32, Tryd.ntmps32
    go_wp2_with fail
    exact bodyPost_ret (v := .tuple #[.agg #[.int .u64 0, .slice none 0 0, .slice none 0 0], .int .i64 0, .int .i64 3]) (by simp [results, Tryd.results32, go_sem]) rfl (ParsePost.nil T.out ((Below.refl _ _).alloc (Nat.le_refl _) _))
  have HL : l.length ≤ 1048576 := by omega
  have hd : ¬ (1048576 : Int) < ((⟨l.toArray⟩ : ByteArray).size : Int) := by rw [hsz]; omega
  have LN := Lib.hid (rlines_any ⟨l.toArray⟩ (w.alloc boxO) (by omega))
  rw [show (ByteArray.mk l.toArray).data.toList = l by simp] at LN
  have HZ := Lib.hid hsz
  clear hlen hsz hl
  go_enter Tryd.func32, Tryd.ntmps32
  go_wp2_with fail
  refine LN.out.mono ?_
  rintro e w1 ⟨A, c, L, wh, rfl, hLR, hla, hLl, hb1⟩
  have hz1 : w.heap.size < w1.heap.size := by have := hb1.size; simp at this; omega
  have hq1 : w1.heap[w.heap.size]? = some boxO := (hb1.block w.heap.size (by simp)).trans (MapKept.heap_alloc w boxO).1
  have HQ1 := Lib.hid hq1
  have FIN := Lib.hid (fun wr (h : Below w1.heap.size w1 wr) => (((Below.refl _ w).alloc (Nat.le_refl _) boxO).trans (hb1.mono (by simp))).trans (h.mono (Nat.le_of_lt hz1)))
  have LR := Lib.hid (show LinesR l L wh from hLR)
  have LA := Lib.hid hla
  have hLL : L.length ≤ 1048576 := by omega
  have WNE := Lib.hid (show wh = false → 0 < L.length by
    rintro rfl
    rcases hLR with ⟨_, h, _⟩ | ⟨_, _, rfl⟩
    · simp at h
    · simp)
  have XL := Lib.hid (fun x hx => Nat.le_trans (LR.out.len x hx) HL)
  clear hb1 hLR hla hq1 hLl
  have ST := Lib.hid (rbox_start w1)
  go_wp2_with fail
  go_loopw [8, 9] (fun d i wr => RPrsRel w1 L wh d i wr) (fun _ i _ => L.length - (intOf i).toNat)
  case atStart => exact ⟨0, st0, rfl, rfl, by omega, rfl, by simp [st0], ⟨⟨by simp [st0, ScrD.nil], by simp [st0, ScrD.nil]⟩, by simp [st0, ScrD.nil]⟩, WNE.out, ST.out⟩
  case round =>
    clear ST
    obtain ⟨n, st, rfl, rfl, hn, hta, hmk, hsm, hwn, ⟨vt, vp, us, hbx⟩⟩ := hrel
    have hbq := (hbx.below.block _ hz1).trans HQ1.out
    have z0 : wr.cell? ⟨w.heap.size, 0, none⟩ = some (.int .u64 0) := blk_cell hbq 0
    have z1 : wr.cell? ⟨w.heap.size, 1, none⟩ = some (.slice none 0 0) := blk_cell hbq 1
    have z2 : wr.cell? ⟨w.heap.size, 2, none⟩ = some (.slice none 0 0) := blk_cell hbq 2
    have g0 : wr.frozen? ⟨w.heap.size, 0, none⟩ = false := blk_frozen hbq 0
    have g1 : wr.frozen? ⟨w.heap.size, 1, none⟩ = false := blk_frozen hbq 1
    have g2 : wr.frozen? ⟨w.heap.size, 2, none⟩ = false := blk_frozen hbq 2
    have HT := Lib.hid hta
    have HM := Lib.hid hmk
    have HS := Lib.hid hsm
    have HWN := Lib.hid hwn
    have HP := Lib.hid hbx
    have hq : w.heap.size < wr.heap.size := Nat.lt_of_lt_of_le hz1 hbx.below.size
    clear hta hmk hsm hwn hbx hbq
    by_cases hlt : n < L.length
    · obtain ⟨x, hx⟩ : ∃ x, L[n]? = some x := ⟨_, List.getElem?_eq_getElem hlt⟩
      obtain ⟨lb, rfl, hlb, hcell⟩ := LA.out (by omega)
      have c0 : wr.cell? ⟨lb, n, none⟩ = some (.string ⟨x.toArray⟩) := (HP.out.below.cell (p := ⟨lb, n, none⟩) hlb).trans (hcell n x hx)
      have hxl := XL.out x (List.mem_of_getElem? hx)
      have RW := Lib.hid (rwords_any ⟨x.toArray⟩ wr (by simp [ByteArray.size]; omega))
      rw [show (ByteArray.mk x.toArray).data.toList = x by simp] at RW
      have GX := Lib.hid hx
      clear hcell hx
      have hj0 : (0 : Int) ≤ n := by omega
      have hj1 : (n : Int) < L.length := by omega
      go_wp2_with fail
      refine RW.out.mono ?_
      rintro e w2 ⟨g, cap, rfl, hwi, hg1, hg2, hcap, hb2⟩
      have hwl := words_len x
      have H2 := Lib.hid (HP.out.above hb2)
      have TK := Lib.hid (rtake_any w1.heap.size w1 w2 w1.heap.size st vt vp us (HP.out.above hb2) n HM.out (words x) g cap hcap (fun y hy => Nat.le_trans (hwl.2 y hy) hxl) (words_pos x) hwi (by omega) (by have := HS.out.1.1; omega) (fun t ht => by have := HS.out.1.2 t ht; omega))
      clear hwi hb2 c0 z0 z1 z2 g0 g1 g2
      go_wp2_with fail
      refine TK.out.mono ?_
      intro e w3 hpost
      cases htk : takeL st (words x) with
      | none =>
        rw [htk] at hpost
        obtain ⟨bb, rfl, hb3⟩ := hpost
        have T := Lib.hid (fail_none HL LR.out HT.out GX.out htk)
        have hbq := (hb3.block _ hz1).trans HQ1.out
        have z0 : w3.cell? ⟨w.heap.size, 0, none⟩ = some (.int .u64 0) := blk_cell hbq 0
        have z1 : w3.cell? ⟨w.heap.size, 1, none⟩ = some (.slice none 0 0) := blk_cell hbq 1
        have z2 : w3.cell? ⟨w.heap.size, 2, none⟩ = some (.slice none 0 0) := blk_cell hbq 2
        have g0 : w3.frozen? ⟨w.heap.size, 0, none⟩ = false := blk_frozen hbq 0
        have g1 : w3.frozen? ⟨w.heap.size, 1, none⟩ = false := blk_frozen hbq 1
        have g2 : w3.frozen? ⟨w.heap.size, 2, none⟩ = false := blk_frozen hbq 2
        have B3 := Lib.hid (FIN.out _ hb3)
        clear hbq hb3 htk
        go_wp2_with fail
        refine bodyPost_ret (v := .tuple #[.agg #[.int .u64 0, .slice none 0 0, .slice none 0 0], .int .i64 ((n : Int) + 1), .int .i64 4]) (by simp [results, Tryd.results32, go_sem, z0, z1, z2]) rfl (ParsePost.nil T.out ?_)
        exact Below.setAt (Below.setAt (Below.setAt B3.out (Nat.le_refl _) _) (Nat.le_refl _) _) (Nat.le_refl _) _
      | some st' =>
        rw [htk] at hpost
        obtain ⟨rfl, vt', vp', us', hbx3⟩ := hpost
        have hbq := (hbx3.below.block _ hz1).trans HQ1.out
        have z0 : w3.cell? ⟨w.heap.size, 0, none⟩ = some (.int .u64 0) := blk_cell hbq 0
        have z1 : w3.cell? ⟨w.heap.size, 1, none⟩ = some (.slice none 0 0) := blk_cell hbq 1
        have z2 : w3.cell? ⟨w.heap.size, 2, none⟩ = some (.slice none 0 0) := blk_cell hbq 2
        have g0 : w3.frozen? ⟨w.heap.size, 0, none⟩ = false := blk_frozen hbq 0
        have g1 : w3.frozen? ⟨w.heap.size, 1, none⟩ = false := blk_frozen hbq 1
        have g2 : w3.frozen? ⟨w.heap.size, 2, none⟩ = false := blk_frozen hbq 2
        have B3 := Lib.hid (FIN.out _ hbx3.below)
        have BX3 := Lib.hid hbx3
        have STEP := Lib.hid (take_step HT.out GX.out htk)
        have MK := Lib.hid (takeL_masked htk)
        have SM := Lib.hid (HS.out.step (by omega) htk)
        clear hbq hbx3 htk
        by_cases hlast : n + 1 = L.length ∧ wh = false
        · obtain ⟨h1, rfl⟩ := hlast
          have T := Lib.hid (fail_open HL LR.out HT.out h1)
          have he : ((n : Int) == (L.length : Int) - 1) = true := by simp; omega
          go_wp2_with fail
          refine bodyPost_ret (v := .tuple #[.agg #[.int .u64 0, .slice none 0 0, .slice none 0 0], .int .i64 ((n : Int) + 1), .int .i64 4]) (by simp [results, Tryd.results32, go_sem, z0, z1, z2]) rfl (ParsePost.nil T.out ?_)
          exact Below.setAt (Below.setAt (Below.setAt B3.out (Nat.le_refl _) _) (Nat.le_refl _) _) (Nat.le_refl _) _
        · have key : ((n : Int) == (L.length : Int) - 1) = false ∨ (((n : Int) == (L.length : Int) - 1) = true ∧ wh = true) := by
            by_cases h1 : n + 1 = L.length
            · refine Or.inr ⟨by simp; omega, ?_⟩
              cases wh with
              | true => rfl
              | false => exact absurd ⟨h1, rfl⟩ hlast
            · exact Or.inl (by simp; omega)
          have NX := Lib.hid (show wh = false → n + 1 < L.length from fun hwf => by
            have : n + 1 ≠ L.length := fun h => hlast ⟨h, hwf⟩
            omega)
          clear hlast
          rcases key with he | ⟨he, rfl⟩
          all_goals
            go_wp2_with fail
            go_roundw
            case rel => exact ⟨n + 1, st', by go_num, rfl, by omega, STEP.out, by simp [MK.out], SM.out, NX.out, ⟨_, _, _, BX3.out⟩⟩
            case measure => simp [intOf]; omega
    · have hne : n = L.length := by omega
      have hwt : wh = true := by
        cases wh with
        | true => rfl
        | false => exact absurd (HWN.out rfl) (by omega)
      subst hwt hne
      have hta := HT.out
      rw [List.take_length] at hta
      have hls : (linesOf l).2 = [] ∧ L = (linesOf l).1 := by
        rcases LR.out with ⟨h1, _, h2⟩ | ⟨_, h1, _⟩
        · exact ⟨h1, h2⟩
        · simp at h1
      have hll : (linesOf l).1.length = L.length := by rw [← hls.2]
      rw [hls.2] at hta
      have k2 := hls.1
      have hsm : Small 1048576 st := by
        obtain ⟨⟨a1, a2⟩, a3⟩ := HS.out
        exact ⟨⟨by omega, fun t ht => by have := a2 t ht; omega⟩, a3⟩
      clear hls HT HS HM HWN WNE XL hn hlt
      obtain ⟨scr, mk, dn⟩ := st
      cases dn with
      | false =>
        have T := Lib.hid (parse_open HL hta (Or.inr rfl) hll)
        clear hta hll k2 hsm
        go_wp2_with fail
        refine bodyPost_ret (v := .tuple #[.agg #[.int .u64 0, .slice none 0 0, .slice none 0 0], .int .i64 ((L.length : Int) + 1), .int .i64 4]) (by simp [results, Tryd.results32, go_sem, z0, z1, z2]) rfl (ParsePost.nil T.out ?_)
        exact Below.setAt (Below.setAt (Below.setAt (FIN.out _ HP.out.below) (Nat.le_refl _) _) (Nat.le_refl _) _) (Nat.le_refl _) _
      | true =>
        have HSM := Lib.hid hsm
        obtain ⟨A2, c2, D, d, rfl, rfl, hscr⟩ := HP.out.scr hsm
        simp only at hscr
        have y0 : wr.cell? ⟨w1.heap.size, 0, none⟩ = some (.int .u64 scr.mask) := HP.out.cell 0
        have y1 : wr.cell? ⟨w1.heap.size, 1, none⟩ = some (.slice A2 scr.threads.length c2) := HP.out.cell 1
        have y2 : wr.cell? ⟨w1.heap.size, 2, none⟩ = some (.slice D scr.picks.length d) := HP.out.cell 2
        have CK := Lib.hid (rcheck_any wr A2 D c2 d scr hscr)
        have HZ1 := Lib.hid HP.out.lt
        have HZ2 := Lib.hid hq
        have HZ3 := Lib.hid hz1
        simp only [scrV] at CK
        rcases checkS_03 scr with hc | hc
        · have T := Lib.hid (parse_ok HL hta k2 rfl hc)
          rw [hc] at CK
          clear hta hll k2 hsm hscr hc
          go_wp2_with fail
          refine CK.out.mono ?_
          rintro e w2 ⟨rfl, hb2⟩
          have B2 := Lib.hid hb2
          have v0 := (hb2.cell (p := ⟨w1.heap.size, 0, none⟩) HZ1.out).trans y0
          have v1 := (hb2.cell (p := ⟨w1.heap.size, 1, none⟩) HZ1.out).trans y1
          have v2 := (hb2.cell (p := ⟨w1.heap.size, 2, none⟩) HZ1.out).trans y2
          have x0 := (hb2.cell (p := ⟨w.heap.size, 0, none⟩) HZ2.out).trans z0
          have x1 := (hb2.cell (p := ⟨w.heap.size, 1, none⟩) HZ2.out).trans z1
          have x2 := (hb2.cell (p := ⟨w.heap.size, 2, none⟩) HZ2.out).trans z2
          have u0 := (hb2.frozen (p := ⟨w.heap.size, 0, none⟩) HZ2.out).trans g0
          have u1 := (hb2.frozen (p := ⟨w.heap.size, 1, none⟩) HZ2.out).trans g1
          have u2 := (hb2.frozen (p := ⟨w.heap.size, 2, none⟩) HZ2.out).trans g2
          clear hb2 y0 y1 y2 z0 z1 z2 g0 g1 g2
          go_wp2_with fail
          refine bodyPost_ret (v := .tuple #[.agg #[.int .u64 scr.mask, .slice A2 scr.threads.length c2, .slice D scr.picks.length d], .int .i64 0, .int .i64 0]) (by simp [results, Tryd.results32, go_sem, x0, x1, x2]) rfl (ParsePost.ok T.out ?_ ?_)
          · refine (HP.out.over (fun k hk1 hk2 => ?_) ?_).scr2 HSM.out
            · have := HZ3.out
              rw [Below.heap_setCell _ _ _ _ (by simp; omega), Below.heap_setCell _ _ _ _ (by simp; omega), Below.heap_setCell _ _ _ _ (by simp; omega)]
              exact B2.out.block k hk2
            · have := B2.out.size
              simp [World.setCell]
              omega
          · exact Below.setAt (Below.setAt (Below.setAt ((FIN.out _ HP.out.below).trans (B2.out.mono (Nat.le_of_lt HZ2.out))) (Nat.le_refl _) _) (Nat.le_refl _) _) (Nat.le_refl _) _
        · have T := Lib.hid (parse_lim HL hta k2 rfl (by rw [hc]; decide))
          rw [hc] at CK
          clear hta hll k2 hsm hscr hc
          go_wp2_with fail
          refine CK.out.mono ?_
          rintro e w2 ⟨rfl, hb2⟩
          have B2 := Lib.hid hb2
          have x0 := (hb2.cell (p := ⟨w.heap.size, 0, none⟩) HZ2.out).trans z0
          have x1 := (hb2.cell (p := ⟨w.heap.size, 1, none⟩) HZ2.out).trans z1
          have x2 := (hb2.cell (p := ⟨w.heap.size, 2, none⟩) HZ2.out).trans z2
          have u0 := (hb2.frozen (p := ⟨w.heap.size, 0, none⟩) HZ2.out).trans g0
          have u1 := (hb2.frozen (p := ⟨w.heap.size, 1, none⟩) HZ2.out).trans g1
          have u2 := (hb2.frozen (p := ⟨w.heap.size, 2, none⟩) HZ2.out).trans g2
          clear hb2 y0 y1 y2 z0 z1 z2 g0 g1 g2
          go_wp2_with fail
          refine bodyPost_ret (v := .tuple #[.agg #[.int .u64 0, .slice none 0 0, .slice none 0 0], .int .i64 0, .int .i64 3]) (by simp [results, Tryd.results32, go_sem, x0, x1, x2]) rfl (ParsePost.nil T.out ?_)
          exact Below.setAt (Below.setAt (Below.setAt ((FIN.out _ HP.out.below).trans (B2.out.mono (Nat.le_of_lt HZ2.out))) (Nat.le_refl _) _) (Nat.le_refl _) _) (Nat.le_refl _) _
end Go.Proofs.YtnoeiaicligmiaaDoor
namespace Go.Proofs.YtnoeiaicligmiaaDoor
set_option linter.unusedVariables false
set_option linter.unusedSimpArgs false
open Go Go.ChangeShapes Go.WideShapes Go.ChangeAt Go.RowKit Go.MapKept
/-- a slice of bytes that can be read -/
def BytesAt (w : World) (A : Option Addr) (n : Nat) : Prop :=
  n ≤ 9223372036854775807 ∧ (0 < n → ∃ b off, A = some ⟨b, off, none⟩ ∧ b < w.heap.size ∧ ∀ k, k < n → ∃ z : Int, w.cell? ⟨b, off + k, none⟩ = some (.int .u8 z) ∧ 0 ≤ z ∧ z ≤ 255)
theorem open_slice_bytes {H : Type} {enc : TypeId × Value → H} {P : Program} {w : World} {r : Reach} {b0 : Nat} {t e : TypeId} {v : Value} {d : DataW H} {ps : List MemPlace} (ht : P.underlying t = some (.slice e)) (he : P.underlying e = some (.int .u8)) (hc : P.cellsOf e = 1)
    (hval : Value.okWide P w r b0 t v) (h : DataW.Trod enc P w 0 (fun _ => true) true t v d ps) : ∃ A n c, v = .slice A n c ∧ BytesAt w A n := by
  obtain ⟨A, n, c, rfl⟩ := Go.WideShapes.okWide_slice ht hval
  refine ⟨A, n, c, rfl, ?_⟩
  obtain ⟨fuel, hf⟩ := h
  rcases Go.ChangeShapes.open_ints ht he hc hf with ⟨hcs, _⟩ | ⟨a, len, cap, zs, hcs, _, hl, hm, hz, _, hcell, hwz⟩
  · simp [Value.cells] at hcs
    obtain ⟨_, rfl, _⟩ := hcs
    exact ⟨by omega, fun h => absurd h (by omega)⟩
  · simp [Value.cells] at hcs
    obtain ⟨rfl, rfl, rfl⟩ := hcs
    simp only [if_true] at hz
    unfold maxLen at hm
    refine ⟨by omega, fun h0 => ?_⟩
    obtain ⟨b, off, rfl, hall⟩ := ints_at hcell (by omega)
    refine ⟨b, off, rfl, acell_lt (hall 0 (by omega)), fun k hk => ⟨zs.getD k 0, hall k (by omega), ?_⟩⟩
    have hmem : zs.getD k 0 ∈ zs := by
      have hk2 : k < zs.length := by omega
      have e : zs.getD k 0 = zs[k] := by simp [List.getD, List.getElem?_eq_getElem hk2]
      rw [e]
      exact List.getElem_mem _
    exact bounds_u8 (hwz _ hmem)
def LawWords (w : World) (b : Nat) : Prop := b < w.heap.size ∧ ∀ k, k < 23 → ∃ v : ByteArray, w.cell? ⟨b, k, none⟩ = some (.string v) ∧ v.size ≤ 20
theorem lword_cell {w : World} {b : Nat} {cs : Array Value} {t : TypeId} {g : Nat × Nat} (h : w.heap[b]? = some (.cells cs t g)) (k : Nat) {v : Value} (hv : cs[k]? = some v) : w.cell? ⟨b, k, none⟩ = some v := by
  unfold World.cell?
  rw [h]
  simpa using hv
set_option maxRecDepth 100000 in
theorem lwords_any (w : World) : Calls Tryd.prog 8 #[] w fun e w' => ∃ b, e = .returned (.slice (some ⟨b, 0, none⟩) 23 23) ∧ LawWords w' b ∧ Below w.heap.size w w' := by
  go_enter Tryd.func8, Tryd.ntmps8
  go_wp2_with fail
  go_ret
  refine ⟨w.heap.size, rfl, ⟨by simp, fun k hk => ?_⟩, (Below.refl _ _).alloc (Nat.le_refl _) _⟩
  have h := fun o => (heap_alloc w o).1
  have c : k = 0 ∨ k = 1 ∨ k = 2 ∨ k = 3 ∨ k = 4 ∨ k = 5 ∨ k = 6 ∨ k = 7 ∨ k = 8 ∨ k = 9 ∨ k = 10 ∨ k = 11 ∨ k = 12 ∨ k = 13 ∨ k = 14 ∨ k = 15 ∨ k = 16 ∨ k = 17 ∨ k = 18 ∨ k = 19 ∨ k = 20 ∨ k = 21 ∨ k = 22 := by omega
  rcases c with rfl | rfl | rfl | rfl | rfl | rfl | rfl | rfl | rfl | rfl | rfl | rfl | rfl | rfl | rfl | rfl | rfl | rfl | rfl | rfl | rfl | rfl | rfl
  all_goals exact ⟨_, lword_cell (h _) _ rfl, by decide⟩
end Go.Proofs.YtnoeiaicligmiaaDoor
namespace Go.Proofs.YtnoeiaicligmiaaDoor
set_option linter.unusedVariables false
set_option linter.unusedSimpArgs false
open Go Go.RowKit Go.MapKept
set_option maxRecDepth 100000 in
set_option maxHeartbeats 2000000 in
theorem parses_any (w : World) (l : List UInt8) (hlen : l.length ≤ 4611686018427387904) (env : Env w) :
    Calls Tryd.prog 13 #[.string ⟨l.toArray⟩] w fun e w' => e = .returned (.bool true) ∧ Below w.heap.size w w' := by
  obtain ⟨s, n, er, hp⟩ : ∃ s n er, parseS l = (s, n, er) := ⟨_, _, _, rfl⟩
  have P1 : Hid (∀ W, Env W → Calls Tryd.prog 17 #[.string ⟨l.toArray⟩] W fun e w' => ∃ A c D d, e = .returned (.tuple #[scrV s.mask A s.threads.length c D s.picks.length d, .int .i64 n, .int .i64 er]) ∧ ScrAt w' A D s ∧ Below W.heap.size W w') := fun W env => by
    obtain ⟨m, hm⟩ := env.max
    have := parse_any W m hm l hlen
    unfold ParsePost at this
    rw [hp] at this
    exact this
  have P2 : Hid (∀ W, Calls Tryd.prog 32 #[.string ⟨l.toArray⟩] W fun e w' => ∃ A c D d, e = .returned (.tuple #[scrV s.mask A s.threads.length c D s.picks.length d, .int .i64 n, .int .i64 er]) ∧ ScrAt w' A D s ∧ Below W.heap.size W w') := fun W => by
    have := rparse_any W l hlen
    unfold ParsePost at this
    rw [hp] at this
    exact this
  have E0 := Lib.hid env
  clear env hp hlen
  go_enter Tryd.func13, Tryd.ntmps13
  go_wp2_with fail
  refine (P1.out _ E0.out).mono ?_
  rintro e w1 ⟨A, c, D, d, rfl, hs1, hb1⟩
  have B1 := Lib.hid hb1
  have S1 := Lib.hid hs1
  clear hs1 hb1 P1
  simp only [scrV]
  go_wp2_with fail
  obtain ⟨W1, hW1⟩ : ∃ W1, W1 = w1.alloc (.cells #[.int .u64 s.mask, .slice A s.threads.length c, .slice D s.picks.length d] 32) := ⟨_, rfl⟩
  rw [← hW1]
  have hb1 : Below w1.heap.size w1 W1 := by rw [hW1]; exact (Below.refl _ _).alloc (Nat.le_refl _) _
  have hz1 : w1.heap.size < W1.heap.size := by rw [hW1]; simp
  have hk1 : W1.heap[w1.heap.size]? = some (.cells #[.int .u64 s.mask, .slice A s.threads.length c, .slice D s.picks.length d] 32 (0, 0)) := by rw [hW1]; exact (heap_alloc w1 _).1
  have S1' := Lib.hid (S1.out.below hb1)
  have B1' := Lib.hid (B1.out.trans (hb1.mono B1.out.size))
  refine (P2.out W1).mono ?_
  rintro e w2 ⟨A', c', D', d', rfl, hs2, hb2⟩
  have S2 := Lib.hid hs2
  have B2 := Lib.hid hb2
  have S1'' := Lib.hid (S1'.out.below hb2)
  have X2 := (hb2.block _ hz1).trans hk1
  have hz2 : w1.heap.size < w2.heap.size := Nat.lt_of_lt_of_le hz1 hb2.size
  have c0 : w2.cell? ⟨w1.heap.size, 0, none⟩ = some (.int .u64 s.mask) := blk_cell X2 0
  have c1 : w2.cell? ⟨w1.heap.size, 1, none⟩ = some (.slice A s.threads.length c) := blk_cell X2 1
  have c2 : w2.cell? ⟨w1.heap.size, 2, none⟩ = some (.slice D s.picks.length d) := blk_cell X2 2
  have HZ := Lib.hid hz1
  clear hs2 hb2 P2 hk1 hb1 hW1 X2 S1 S1' B1 hz1
  simp only [scrV]
  go_wp2_with fail
  have EQ := requal_same (w2.alloc (.cells #[.int .u64 s.mask, .slice A' s.threads.length c', .slice D' s.picks.length d'] 32)) A D A' D' c d c' d' s (S1''.out.below ((Below.refl _ _).alloc (Nat.le_refl _) _)) (S2.out.below ((Below.refl _ _).alloc (Nat.le_refl _) _))
  refine EQ.mono ?_
  rintro e w3 ⟨rfl, hb3⟩
  have B3 := Lib.hid hb3
  clear hb3 EQ
  go_wp2_with fail
  go_ret
  have z1 := B1'.out.size
  have z2 := B2.out.size
  have z3 := B3.out.size
  exact ⟨rfl, B1'.out.trans ((B2.out.trans ((((Below.refl _ _).alloc (Nat.le_refl _) _).trans (B3.out.mono (by simp))).mono z2)).mono z1)⟩
end Go.Proofs.YtnoeiaicligmiaaDoor
namespace Go.Proofs.YtnoeiaicligmiaaDoor
set_option linter.unusedVariables false
set_option linter.unusedSimpArgs false
open Go Go.RowKit Go.MapKept
theorem parses_str (w : World) (T : ByteArray) (h : T.size ≤ 4611686018427387904) (env : Env w) :
    Calls Tryd.prog 13 #[.string T] w fun e w' => e = .returned (.bool true) ∧ Below w.heap.size w w' := by
  have e : T = ⟨T.data.toList.toArray⟩ := by simp
  rw [e]
  exact parses_any w T.data.toList (by rw [Array.length_toList]; exact h) env
theorem fmt_size (s : ScrD) : (⟨(formatS s).1.toArray⟩ : ByteArray).size ≤ 1048576 := by
  have : (formatS s).1.length ≤ 1048576 := by
    unfold formatS
    split
    · simp
    · split
      · simp
      · have : (textS s).length ≤ maxText := by omega
        unfold maxText at this
        simpa using this
  simpa [ByteArray.size] using this
theorem ext_size (U : ByteArray) (a b : Nat) : (U.extract a b).size ≤ U.size := by rw [ByteArray.size_extract]; omega
theorem byte_str (w : World) (b : Int) (h0 : 0 ≤ b) (h1 : b ≤ 255) : ∃ V : ByteArray, V.size = 1 ∧ Sem.run Tryd.prog (convert 22 9 (.slice (some ⟨w.heap.size, 0, none⟩) 1 1)) (w.alloc (.cells #[.int .u8 b] 5)).drew = .ok (.string V) (w.alloc (.cells #[.int .u8 b] 5)).drew := by
  obtain ⟨n, rfl⟩ := Int.eq_ofNat_of_zero_le h0
  refine ⟨⟨[UInt8.ofNat n].toArray⟩, rfl, ?_⟩
  refine run_convert_bytes_back (P := Tryd.prog) (w.alloc (.cells #[.int .u8 n] 5)).drew 22 9 5 ⟨w.heap.size, 0, none⟩ 1 [UInt8.ofNat n] Tryd.underlying22 (by kernel_rfl) Tryd.underlying9 ?_
  intro j hj
  have hj0 : j = 0 := by simpa using hj
  subst hj0
  have h := blk_cell (w := (w.alloc (.cells #[.int .u8 n] 5)).drew) (heap_alloc w (.cells #[.int .u8 n] 5)).1 0
  refine h.trans ?_
  have : (UInt8.ofNat n).toNat = n := by simp; omega
  simp [this]
def PRel (v13 v15 : Value) : Prop := ∃ (j : Nat) (T : ByteArray), v15 = .int .i64 j ∧ j ≤ 30 ∧ v13 = .string T ∧ T.size ≤ 21 * j
set_option maxRecDepth 100000 in
set_option maxHeartbeats 4000000 in
theorem scriptParses_walk (l : List UInt8) (A : Option Addr) (n c : Nat) (A2 : Option Addr) (n2 c2 : Nat) (at_ kind b : Int) (w : World)
    (hl : l.length ≤ 140737488351232) (hb : BytesAt w A n) (hi : IntsAt w A2 n2) (ha : -9223372036854775808 ≤ at_ ∧ at_ ≤ 9223372036854775807) (hk : -9223372036854775808 ≤ kind ∧ kind ≤ 9223372036854775807) (h8 : 0 ≤ b ∧ b ≤ 255) (env : Env w) :
    Calls Tryd.prog 3 #[.string ⟨l.toArray⟩, .slice A n c, .slice A2 n2 c2, .int .i64 at_, .int .i64 kind, .int .u8 b] w fun e w' => e = .returned (.bool true) ∧ Below w.heap.size w w' := by
  have E0 := Lib.hid env
  have HL : Hid ((⟨l.toArray⟩ : ByteArray).size ≤ 4611686018427387904) := by
    have : (⟨l.toArray⟩ : ByteArray).size = l.length := by simp [ByteArray.size]
    show _ ≤ _
    rw [this]; omega
  have HB := Lib.hid hb
  have HI := Lib.hid hi
  have H8 := Lib.hid h8
  generalize (⟨l.toArray⟩ : ByteArray) = T0 at *
  have AWK : Hid (∀ W, Below w.heap.size w W → Calls Tryd.prog 12 #[] W fun e w' => e = .returned (.bool true) ∧ Below w.heap.size w w') := awake_in E0.out
  have PRS : Hid (∀ (X : ByteArray) W, X.size ≤ 4611686018427387904 → Below w.heap.size w W → Calls Tryd.prog 13 #[.string X] W fun e w' => e = .returned (.bool true) ∧ Below w.heap.size w w') := fun X W h hb => (parses_str W X h (E0.out.below hb)).mono fun _ _ p => ⟨p.1, hb.trans (p.2.mono hb.size)⟩
  clear env hl hb hi ha hk h8
  go_enter Tryd.func3, Tryd.ntmps3
  go_wp2_with fail
  refine (lwords_any w).mono ?_
  rintro e w1 ⟨q, rfl, hw1, hb1⟩
  have B1 := Lib.hid hb1
  have Q1 := Lib.hid hw1
  clear hb1 hw1
  have I1 := Lib.hid (HI.out.below B1.out)
  go_wp2_with fail
  go_loop [13, 15] (fun v13 v15 => PRel v13 v15) (fun _ v15 => 30 - (intOf v15).toNat)
  case atStart => exact ⟨0, _, rfl, by omega, rfl, by decide⟩
  case round =>
    obtain ⟨j, T, rfl, hj, rfl, hT⟩ := hrel
    have HT := Lib.hid hT
    by_cases hx : j < n ∧ j < 30
    · obtain ⟨hjn, hj30⟩ := hx
      obtain ⟨g, off, rfl, hg, hc⟩ := HB.out.2 (by omega)
      obtain ⟨z, hz, z0, z1⟩ := hc j hjn
      have hz' := (B1.out.cell (p := ⟨g, off + j, none⟩) hg).trans hz
      have hj0 : (0 : Int) ≤ j := by omega
      have hj1 : (j : Int) < n := by omega
      have hj2 : (j : Int) < 30 := by omega
      obtain ⟨K, hK⟩ := Int.eq_ofNat_of_zero_le (show 0 ≤ z.tmod 23 from Int.tmod_nonneg _ z0)
      have hK2 : K < 23 := by have := Int.tmod_lt_of_pos z (show (0 : Int) < 23 by omega); omega
      obtain ⟨v, hv, hvs⟩ := Q1.out.2 K hK2
      have HV := Lib.hid hvs
      have e1 : IntKind.i64.wrap z = z := IntWalk.i64_in _ (by omega)
      have e2 : IntKind.i64.wrap (K : Int) = K := IntWalk.i64_in _ (by omega)
      have hK0 : (0 : Int) ≤ K := by omega
      have hK1 : (K : Int) < 23 := by omega
      have hs1 : ¬ 9223372036854775807 < T.size + v.size := by omega
      have hs2 : ¬ 9223372036854775807 < T.size + v.size + 1 := by omega
      clear hc hz hvs hT
      go_wp2_with fail
      all_goals
        refine ⟨⟨j + 1, _, by go_num, by omega, rfl, ?_⟩, by simp [intOf]; omega⟩
        have := HT.out
        have := HV.out
        first
          | (show (T ++ v ++ ⟨#[32]⟩ : ByteArray).size ≤ _
             rw [ByteArray.size_append, ByteArray.size_append]
             show T.size + v.size + 1 ≤ _
             omega)
          | (show (T ++ v : ByteArray).size ≤ _
             rw [ByteArray.size_append]
             omega)
    have hx2 : ¬ (j : Int) < n ∨ (j : Int) < n ∧ ¬ (j : Int) < 30 := by omega
    have HT2 : Hid (T.size ≤ 630) := by show _ ≤ _; omega
    clear hT HT HB HI hx
    rcases hx2 with hx2 | ⟨hx2, hx3⟩
    all_goals
      clear Q1
      go_wp2_with fail
      refine (gen_fit _ A2 n2 c2 I1.out).mono ?_
      rintro e w2 ⟨s, As, cs, Ds, ds, rfl, hs, fit, hb2⟩
      have B2 := Lib.hid (B1.out.trans (hb2.mono B1.out.size))
      have S2 := Lib.hid hs
      have F2 := Lib.hid fit
      clear hs fit hb2
      simp only [scrV]
      go_wp2_with fail
      refine (rformat_any _ As Ds cs ds s S2.out F2.out.ok F2.out.keys).mono ?_
      rintro e w3 ⟨rfl, hb3⟩
      have B3 := Lib.hid (B2.out.trans (hb3.mono B2.out.size))
      have FS := fmt_size s
      generalize (⟨(formatS s).1.toArray⟩ : ByteArray) = U at *
      generalize (formatS s).2 = er at *
      have hu : IntKind.i64.wrap ((U.size : Int) + 1) = (U.size : Int) + 1 := IntWalk.i64_in _ (by omega)
      have M1 := fun W => mod_same at_ ((U.size : Int) + 1) W (by omega) (by omega)
      have M2 := fun W => mod_same kind 4 W (by omega) (by omega)
      have hm1 := modI_bd at_ ((U.size : Int) + 1) (by omega)
      have hm2 := modI_bd kind 4 (by omega)
      generalize modI at_ ((U.size : Int) + 1) = k at *
      generalize modI kind 4 = r at *
      obtain ⟨K, rfl⟩ := Int.eq_ofNat_of_zero_le hm1.1
      have hK : K ≤ U.size := by omega
      have hm1' : (K : Int) ≤ (U.size : Int) := by omega
      have hK0 : (0 : Int) ≤ K := by omega
      have M1' := Lib.hid M1
      have M2' := Lib.hid M2
      have FS' := Lib.hid FS
      have HM2 := Lib.hid hm2
      clear hb3 S2 F2 B2 M1 M2 hm1 hm2 FS
      go_wp2_with fail
      refine (M1'.out _).mono ?_
      rintro e w4 ⟨rfl, rfl⟩
      clear M1'
      go_wp2_with fail
      refine (M2'.out _).mono ?_
      rintro e w4 ⟨rfl, rfl⟩
      clear M2'
      have hr : r = 0 ∨ r = 1 ∨ r = 2 ∨ r = 3 := by have := HM2.out; omega
      clear HM2
      obtain ⟨M, hM⟩ : ∃ M : Nat, M = min (K + 1) U.size := ⟨_, rfl⟩
      have hmn : min (wrap64 ((K : Int) + 1)) (U.size : Int) = (M : Int) := by have := FS'.out; unfold wrap64; omega
      have hM0 : (0 : Int) ≤ (M : Int) := by omega
      have hM1 : (M : Int) ≤ (U.size : Int) := by omega
      have hM2 : M ≤ U.size := by omega
      have hns : ¬ 9223372036854775807 < K + (U.size - M) := by have := FS'.out; omega
      clear hM
      have B4 := Lib.hid ((B3.out.alloc B3.out.size (.cells #[.int .u8 b] 5)).drew)
      obtain ⟨V, hV, kc⟩ := byte_str w4 b H8.out.1 H8.out.2
      have HV := Lib.hid hV
      have hns1 : ¬ 9223372036854775807 < V.size + (U.size - K) := by have := FS'.out; omega
      have hns2 : ¬ 9223372036854775807 < K + (V.size + (U.size - K)) := by have := FS'.out; omega
      have hns3 : ¬ 9223372036854775807 < V.size + (U.size - M) := by have := FS'.out; omega
      have hns4 : ¬ 9223372036854775807 < K + (V.size + (U.size - M)) := by have := FS'.out; omega
      clear hV
      rcases hr with rfl | rfl | rfl | rfl
      · go_wp2_with fail
        go_region
        go_wp2_with fail
        refine (AWK.out _ (B4.out)).mono ?_
        rintro e w5 ⟨rfl, hb5⟩
        go_wp2_with fail
        refine (PRS.out T0 _ HL.out hb5).mono ?_
        clear hb5
        rintro e w6 ⟨rfl, hb6⟩
        go_wp2_with fail
        refine (PRS.out T _ (Nat.le_trans HT2.out (by decide)) hb6).mono ?_
        clear hb6
        rintro e w7 ⟨rfl, hb7⟩
        go_wp2_with fail
        refine (PRS.out U _ (Nat.le_trans FS'.out (by decide)) hb7).mono ?_
        clear hb7
        rintro e w8 ⟨rfl, hb8⟩
        go_wp2_with fail
        refine (PRS.out _ _ ?_ hb8).mono ?_
        · have h1 := FS'.out
          have h2 := HV.out
          have h3 := ext_size U 0 K
          have h4 := ext_size U K U.size
          have h5 := ext_size U M U.size
          try simp only [ByteArray.size_append]
          omega
        clear hb8
        rintro e w9 ⟨rfl, hb9⟩
        go_wp2_with fail
        go_ret
        exact ⟨rfl, hb9⟩
      · go_wp2_with fail
        refine (AWK.out _ (B3.out)).mono ?_
        rintro e w5 ⟨rfl, hb5⟩
        go_wp2_with fail
        refine (PRS.out T0 _ HL.out hb5).mono ?_
        clear hb5
        rintro e w6 ⟨rfl, hb6⟩
        go_wp2_with fail
        refine (PRS.out T _ (Nat.le_trans HT2.out (by decide)) hb6).mono ?_
        clear hb6
        rintro e w7 ⟨rfl, hb7⟩
        go_wp2_with fail
        refine (PRS.out U _ (Nat.le_trans FS'.out (by decide)) hb7).mono ?_
        clear hb7
        rintro e w8 ⟨rfl, hb8⟩
        go_wp2_with fail
        refine (PRS.out _ _ ?_ hb8).mono ?_
        · have h1 := FS'.out
          have h2 := HV.out
          have h3 := ext_size U 0 K
          have h4 := ext_size U K U.size
          have h5 := ext_size U M U.size
          try simp only [ByteArray.size_append]
          omega
        clear hb8
        rintro e w9 ⟨rfl, hb9⟩
        go_wp2_with fail
        go_ret
        exact ⟨rfl, hb9⟩
      · go_wp2_with fail
        go_region
        go_wp2_with fail
        refine (AWK.out _ (B4.out)).mono ?_
        rintro e w5 ⟨rfl, hb5⟩
        go_wp2_with fail
        refine (PRS.out T0 _ HL.out hb5).mono ?_
        clear hb5
        rintro e w6 ⟨rfl, hb6⟩
        go_wp2_with fail
        refine (PRS.out T _ (Nat.le_trans HT2.out (by decide)) hb6).mono ?_
        clear hb6
        rintro e w7 ⟨rfl, hb7⟩
        go_wp2_with fail
        refine (PRS.out U _ (Nat.le_trans FS'.out (by decide)) hb7).mono ?_
        clear hb7
        rintro e w8 ⟨rfl, hb8⟩
        go_wp2_with fail
        refine (PRS.out _ _ ?_ hb8).mono ?_
        · have h1 := FS'.out
          have h2 := HV.out
          have h3 := ext_size U 0 K
          have h4 := ext_size U K U.size
          have h5 := ext_size U M U.size
          try simp only [ByteArray.size_append]
          omega
        clear hb8
        rintro e w9 ⟨rfl, hb9⟩
        go_wp2_with fail
        go_ret
        exact ⟨rfl, hb9⟩
      · go_wp2_with fail
        refine (AWK.out _ (B3.out)).mono ?_
        rintro e w5 ⟨rfl, hb5⟩
        go_wp2_with fail
        refine (PRS.out T0 _ HL.out hb5).mono ?_
        clear hb5
        rintro e w6 ⟨rfl, hb6⟩
        go_wp2_with fail
        refine (PRS.out T _ (Nat.le_trans HT2.out (by decide)) hb6).mono ?_
        clear hb6
        rintro e w7 ⟨rfl, hb7⟩
        go_wp2_with fail
        refine (PRS.out U _ (Nat.le_trans FS'.out (by decide)) hb7).mono ?_
        clear hb7
        rintro e w8 ⟨rfl, hb8⟩
        go_wp2_with fail
        refine (PRS.out _ _ ?_ hb8).mono ?_
        · have h1 := FS'.out
          have h2 := HV.out
          have h3 := ext_size U 0 K
          have h4 := ext_size U K U.size
          have h5 := ext_size U M U.size
          try simp only [ByteArray.size_append]
          omega
        clear hb8
        rintro e w9 ⟨rfl, hb9⟩
        go_wp2_with fail
        go_ret
        exact ⟨rfl, hb9⟩
end Go.Proofs.YtnoeiaicligmiaaDoor
