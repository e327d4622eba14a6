/- The walk of package linz' newRecord. Package linz' search: numbers as sets; the walks of reads and has. Package linz' search: what it needs; the walks of has and needed. -/
import Derived.Test.YtbmoehndnbbhcaaGreatDoorMZS
import Derived.Deep.RegionHeld3
import Derived.Deep.QuietTactic
import Derived.Test.YtbmoehndnbbhcaaGreatDoorMZNp
import Derived.Test.YtbmoehndnbbhcaaGreatDoorMZRes
import Derived.Deep.LoopGhost
import Derived.Deep.MidRow
import Derived.Laws.Rows
namespace Go.Proofs.YtbmoehndnbbhcaaGreatDoor
set_option linter.unusedVariables false
set_option linter.unusedSimpArgs false
open Go Go.RowKit Go.MapKept
def spZ : SpD := ⟨0, 0, ResF.zero⟩
def spN : SpD := ⟨-1, -1, ResF.zero⟩
theorem spInfo : (Tryz.prog.info? 63).map (fun i => (i.zero, i.size, i.bytes)) = some (some (.agg #[.int .i64 0, .int .i64 0, .int .i64 0, .bool false, .int .u64 0, .string ⟨#[]⟩, .int .i64 0, .int .i64 0, .int .i64 0, .bool false]), 10, 88) := by kernel_rfl
def spMade (k : Nat) : Array Value := madeCells (Value.agg #[.int .i64 0, .int .i64 0, .int .i64 0, .bool false, .int .u64 0, .string ⟨#[]⟩, .int .i64 0, .int .i64 0, .int .i64 0, .bool false]).cells (k * 10)
theorem make_spans (k : Nat) (hk : k ≤ 1048576) (W : World) : (Instr.makeSlice 83 (.int .i64 (k : Int)) (.int .i64 (k : Int))).run Tryz.prog W = .ok (.slice (some ⟨W.heap.size, 0, none⟩) k k) (W.alloc (.cells (spMade k) 63)) := by
  obtain ⟨i0, hi, hz0, hz1, hz2⟩ := info_parts3 spInfo
  have hr := run_make (P := Tryz.prog) W 83 63 i0 _ Tryz.underlying83 hi hz0 .i64 .i64 k k (by omega) (Int.le_refl _) (by rw [hz2]; omega) (by omega)
  simp only [Int.toNat_natCast] at hr
  rw [hz1] at hr
  exact hr
theorem sp_made (W : World) (k : Nat) : SpBlk (W.alloc (.cells (spMade k) 63)) W.heap.size k (fun _ => spZ) := by
  refine ⟨_, (heap_alloc W _).1, by simp [spMade, madeCells], fun i j v hi hj => ?_⟩
  have hj10 : j < 10 := by
    have := (List.getElem?_eq_some_iff.1 hj).1
    rwa [SpD.cells_len] at this
  have hlt : i * 10 + j < k * 10 := by omega
  have e : (i * 10 + j) % 10 = j := by omega
  have h2 : (spMade k)[i * 10 + j]? = some ((Value.agg #[.int .i64 0, .int .i64 0, .int .i64 0, .bool false, .int .u64 0, .string ⟨#[]⟩, .int .i64 0, .int .i64 0, .int .i64 0, .bool false]).cells[(i * 10 + j) % 10]!) := by
    simp [spMade, madeCells, Value.cells, hlt]
  rw [h2, e]
  match j, hj10, hj with
  | 0, _, hj => exact hj
  | 1, _, hj => exact hj
  | 2, _, hj => exact hj
  | 3, _, hj => exact hj
  | 4, _, hj => exact hj
  | 5, _, hj => exact hj
  | 6, _, hj => exact hj
  | 7, _, hj => exact hj
  | 8, _, hj => exact hj
  | 9, _, hj => exact hj
def updS (f : Nat → SpD) (I : Nat) (x : SpD) : Nat → SpD := fun k => if k = I then x else f k
theorem SpBlk.upd {w : World} {b n I j : Nat} {f : Nat → SpD} {x y : SpD} {v : Value} (h : SpBlk w b n (updS f I x)) (hI : I < n) (hv : y.cells = x.cells.set j v) (hj : j < 10) : SpBlk (w.setCell ⟨b, I * 10 + j, none⟩ v) b n (updS f I y) :=
  h.set hI (fun k hk hne => by simp [updS, hne]) (by simp only [updS, if_true]; exact hv) hj
theorem SpBlk.start {w : World} {b n : Nat} {f : Nat → SpD} (h : SpBlk w b n f) (I : Nat) : SpBlk w b n (updS f I (f I)) := h.congr fun k hk => by
  unfold updS
  split
  · rename_i e; rw [e]
  · rfl
/-- a whole span is written -/
theorem SpBlk.put {w : World} {b n I : Nat} {f : Nat → SpD} (h : SpBlk w b n f) (hI : I < n) (s : SpD) :
    SpBlk ((((((((((w.setCell ⟨b, I * 10, none⟩ (.int .i64 s.inv)).setCell ⟨b, I * 10 + 1, none⟩ (.int .i64 s.ret)).setCell ⟨b, I * 10 + 2, none⟩ (.int .i64 s.res.err)).setCell ⟨b, I * 10 + 3, none⟩ (.bool s.res.found)).setCell ⟨b, I * 10 + 4, none⟩ (.int .u64 s.res.value)).setCell ⟨b, I * 10 + 5, none⟩ (.string s.res.key)).setCell ⟨b, I * 10 + 6, none⟩ (.int .i64 s.res.count)).setCell ⟨b, I * 10 + 7, none⟩ (.int .i64 s.res.ref)).setCell ⟨b, I * 10 + 8, none⟩ (.int .i64 s.res.root)).setCell ⟨b, I * 10 + 9, none⟩ (.bool s.res.ro)) b n (updS f I s) ∧
    Turned b w ((((((((((w.setCell ⟨b, I * 10, none⟩ (.int .i64 s.inv)).setCell ⟨b, I * 10 + 1, none⟩ (.int .i64 s.ret)).setCell ⟨b, I * 10 + 2, none⟩ (.int .i64 s.res.err)).setCell ⟨b, I * 10 + 3, none⟩ (.bool s.res.found)).setCell ⟨b, I * 10 + 4, none⟩ (.int .u64 s.res.value)).setCell ⟨b, I * 10 + 5, none⟩ (.string s.res.key)).setCell ⟨b, I * 10 + 6, none⟩ (.int .i64 s.res.count)).setCell ⟨b, I * 10 + 7, none⟩ (.int .i64 s.res.ref)).setCell ⟨b, I * 10 + 8, none⟩ (.int .i64 s.res.root)).setCell ⟨b, I * 10 + 9, none⟩ (.bool s.res.ro)) := by
  obtain ⟨i, r, ⟨e, fo, va, k, c, rf, ro, b8⟩⟩ := s
  have h0 := h.start I
  generalize f I = x at h0
  obtain ⟨xi, xr, ⟨xe, xf, xv, xk, xc, xrf, xro, xb⟩⟩ := x
  have h1 := h0.upd (j := 0) (v := .int .i64 i) (y := ⟨i, xr, ⟨xe, xf, xv, xk, xc, xrf, xro, xb⟩⟩) hI rfl (by omega)
  have h2 := h1.upd (j := 1) (v := .int .i64 r) (y := ⟨i, r, ⟨xe, xf, xv, xk, xc, xrf, xro, xb⟩⟩) hI rfl (by omega)
  have h3 := h2.upd (j := 2) (v := .int .i64 e) (y := ⟨i, r, ⟨e, xf, xv, xk, xc, xrf, xro, xb⟩⟩) hI rfl (by omega)
  have h4 := h3.upd (j := 3) (v := .bool fo) (y := ⟨i, r, ⟨e, fo, xv, xk, xc, xrf, xro, xb⟩⟩) hI rfl (by omega)
  have h5 := h4.upd (j := 4) (v := .int .u64 va) (y := ⟨i, r, ⟨e, fo, va, xk, xc, xrf, xro, xb⟩⟩) hI rfl (by omega)
  have h6 := h5.upd (j := 5) (v := .string k) (y := ⟨i, r, ⟨e, fo, va, k, xc, xrf, xro, xb⟩⟩) hI rfl (by omega)
  have h7 := h6.upd (j := 6) (v := .int .i64 c) (y := ⟨i, r, ⟨e, fo, va, k, c, xrf, xro, xb⟩⟩) hI rfl (by omega)
  have h8 := h7.upd (j := 7) (v := .int .i64 rf) (y := ⟨i, r, ⟨e, fo, va, k, c, rf, xro, xb⟩⟩) hI rfl (by omega)
  have h9 := h8.upd (j := 8) (v := .int .i64 ro) (y := ⟨i, r, ⟨e, fo, va, k, c, rf, ro, xb⟩⟩) hI rfl (by omega)
  have h10 := h9.upd (j := 9) (v := .bool b8) (y := ⟨i, r, ⟨e, fo, va, k, c, rf, ro, b8⟩⟩) hI rfl (by omega)
  exact ⟨h10, turned_trans (turned_trans (turned_trans (turned_trans (turned_trans (turned_trans (turned_trans (turned_trans (turned_trans (turned_set _ _ _ _) (turned_set _ _ _ _)) (turned_set _ _ _ _)) (turned_set _ _ _ _)) (turned_set _ _ _ _)) (turned_set _ _ _ _)) (turned_set _ _ _ _)) (turned_set _ _ _ _)) (turned_set _ _ _ _)) (turned_set _ _ _ _)⟩
theorem rowSp : (Tryz.prog.info? 83).map (fun i => (i.zero, i.size, i.bytes)) = some (some (.slice none 0 0), 1, 24) := by kernel_rfl
def SnRel (w : World) (ts : List (List OpD)) (A : Option Addr) (c : Nat) (i : Value) (wr : World) : Prop :=
  ∃ (T : Nat) (v : Value) (bs : List Nat), T ≤ ts.length ∧ i = .int .i64 T ∧ bs.length = T ∧ RecB w ts A c (fun _ _ => spN) v bs wr
def SnIn (w : World) (ts : List (List OpD)) (A : Option Addr) (c : Nat) (v : Value) (bs : List Nat) (b n : Nat) (i : Value) (wr : World) : Prop :=
  ∃ I : Nat, I ≤ n ∧ i = .int .i64 I ∧ RecB w ts A c (fun _ _ => spN) v bs wr ∧ b < wr.heap.size ∧ SpBlk wr b n (fun k => if k < I then spN else spZ)
open Classical in
theorem spanP_take {ops : List Nat} {l : List EvD} (hp : ProperP ops l) {j : Nat} {e : EvD} (hj : l[j]? = some e) (a : OpP) :
    spanP (l.take (j + 1)) a = if e.is a false then ⟨j, (spanP (l.take j) a).ret, (spanP (l.take j) a).res⟩ else if e.is a true then ⟨(spanP (l.take j) a).inv, j, e.res⟩ else spanP (l.take j) a := by
  unfold spanP
  rw [when_take hp hj a false, when_take hp hj a true, result_take hp hj a]
  by_cases h1 : e.is a false
  · have h2 : ¬ e.is a true := fun h => by have := h1.2.2.symm.trans h.2.2; simp at this
    rw [if_pos h1, if_pos h1, if_neg h2, if_neg h2]
  · by_cases h2 : e.is a true
    · rw [if_neg h1, if_neg h1, if_pos h2, if_pos h2, if_pos h2]; rfl
    · rw [if_neg h1, if_neg h1, if_neg h2, if_neg h2, if_neg h2]
theorem spanP_away {ops : List Nat} {l : List EvD} (hp : ProperP ops l) {j : Nat} {e : EvD} (hj : l[j]? = some e) {a : OpP} (h : e.op ≠ a) : spanP (l.take (j + 1)) a = spanP (l.take j) a := by
  rw [spanP_take hp hj, if_neg fun hh => h hh.is_op, if_neg fun hh => h hh.is_op]
theorem spanP_inv {ops : List Nat} {l : List EvD} (hp : ProperP ops l) {j : Nat} {e : EvD} (hj : l[j]? = some e) (hr : e.ret = false) : spanP (l.take (j + 1)) e.op = ⟨j, (spanP (l.take j) e.op).ret, (spanP (l.take j) e.op).res⟩ := by
  rw [spanP_take hp hj, if_pos ⟨rfl, rfl, hr⟩]
theorem spanP_ret {ops : List Nat} {l : List EvD} (hp : ProperP ops l) {j : Nat} {e : EvD} (hj : l[j]? = some e) (hr : e.ret = true) : spanP (l.take (j + 1)) e.op = ⟨(spanP (l.take j) e.op).inv, j, e.res⟩ := by
  rw [spanP_take hp hj, if_neg (fun h => by have := hr.symm.trans h.2.2; simp at this), if_pos ⟨rfl, rfl, hr⟩]
/-- the result of a span is written -/
theorem SpBlk.putRes {w : World} {b n I : Nat} {f : Nat → SpD} {x : SpD} (h : SpBlk w b n (updS f I x)) (hI : I < n) (r : ResF) :
    SpBlk ((((((((w.setCell ⟨b, I * 10 + 2, none⟩ (.int .i64 r.err)).setCell ⟨b, I * 10 + 3, none⟩ (.bool r.found)).setCell ⟨b, I * 10 + 4, none⟩ (.int .u64 r.value)).setCell ⟨b, I * 10 + 5, none⟩ (.string r.key)).setCell ⟨b, I * 10 + 6, none⟩ (.int .i64 r.count)).setCell ⟨b, I * 10 + 7, none⟩ (.int .i64 r.ref)).setCell ⟨b, I * 10 + 8, none⟩ (.int .i64 r.root)).setCell ⟨b, I * 10 + 9, none⟩ (.bool r.ro)) b n (updS f I ⟨x.inv, x.ret, r⟩) ∧
    Turned b w ((((((((w.setCell ⟨b, I * 10 + 2, none⟩ (.int .i64 r.err)).setCell ⟨b, I * 10 + 3, none⟩ (.bool r.found)).setCell ⟨b, I * 10 + 4, none⟩ (.int .u64 r.value)).setCell ⟨b, I * 10 + 5, none⟩ (.string r.key)).setCell ⟨b, I * 10 + 6, none⟩ (.int .i64 r.count)).setCell ⟨b, I * 10 + 7, none⟩ (.int .i64 r.ref)).setCell ⟨b, I * 10 + 8, none⟩ (.int .i64 r.root)).setCell ⟨b, I * 10 + 9, none⟩ (.bool r.ro)) := by
  obtain ⟨e, fo, va, k, c, rf, ro, b8⟩ := r
  obtain ⟨xi, xr, ⟨xe, xf, xv, xk, xc, xrf, xro, xb⟩⟩ := x
  have h3 := h.upd (j := 2) (v := .int .i64 e) (y := ⟨xi, xr, ⟨e, xf, xv, xk, xc, xrf, xro, xb⟩⟩) hI rfl (by omega)
  have h4 := h3.upd (j := 3) (v := .bool fo) (y := ⟨xi, xr, ⟨e, fo, xv, xk, xc, xrf, xro, xb⟩⟩) hI rfl (by omega)
  have h5 := h4.upd (j := 4) (v := .int .u64 va) (y := ⟨xi, xr, ⟨e, fo, va, xk, xc, xrf, xro, xb⟩⟩) hI rfl (by omega)
  have h6 := h5.upd (j := 5) (v := .string k) (y := ⟨xi, xr, ⟨e, fo, va, k, xc, xrf, xro, xb⟩⟩) hI rfl (by omega)
  have h7 := h6.upd (j := 6) (v := .int .i64 c) (y := ⟨xi, xr, ⟨e, fo, va, k, c, xrf, xro, xb⟩⟩) hI rfl (by omega)
  have h8 := h7.upd (j := 7) (v := .int .i64 rf) (y := ⟨xi, xr, ⟨e, fo, va, k, c, rf, xro, xb⟩⟩) hI rfl (by omega)
  have h9 := h8.upd (j := 8) (v := .int .i64 ro) (y := ⟨xi, xr, ⟨e, fo, va, k, c, rf, ro, xb⟩⟩) hI rfl (by omega)
  have h10 := h9.upd (j := 9) (v := .bool b8) (y := ⟨xi, xr, ⟨e, fo, va, k, c, rf, ro, b8⟩⟩) hI rfl (by omega)
  exact ⟨h10, turned_trans (turned_trans (turned_trans (turned_trans (turned_trans (turned_trans (turned_trans (turned_set _ _ _ _) (turned_set _ _ _ _)) (turned_set _ _ _ _)) (turned_set _ _ _ _)) (turned_set _ _ _ _)) (turned_set _ _ _ _)) (turned_set _ _ _ _)) (turned_set _ _ _ _)⟩
theorem SpBlk.drew {w : World} {b n : Nat} {f : Nat → SpD} (h : SpBlk w b n f) : SpBlk w.drew b n f := h.of_block rfl
theorem turned_drew {b : Nat} {a c : World} (h : Turned b a c) : Turned b a c.drew := ⟨h.cell, h.frozen, h.size, h.block, h.os, h.tape, h.output⟩
theorem turned_more {b j : Nat} {a c : World} {v : Value} (h : Turned b a c) : Turned b a (c.setCell ⟨b, j, none⟩ v) := turned_trans h (turned_set _ _ _ _)
def EvRel (w : World) (ts : List (List OpD)) (A : Option Addr) (c : Nat) (l : List EvD) (v : Value) (bs : List Nat) (i : Value) (wr : World) : Prop :=
  ∃ j : Nat, j ≤ l.length ∧ i = .int .i64 j ∧ RecB w ts A c (fun t i => spanP (l.take j) ((t : Int), (i : Int))) v bs wr
set_option maxRecDepth 100000 in
set_option maxHeartbeats 4000000 in
theorem newrec_any (w : World) (A B : Option Addr) (c d : Nat) (ts : List (List OpD)) (l : List EvD) (hA : ThrAt w A ts) (hB : EvsAt w B l) (ft : ThrFit ts) (fe : EvsFit l) (hp : ProperP (lens ts) l) (hs : ¬ BigP (lens ts)) :
    Calls Tryz.prog 14 #[.slice A ts.length c, .slice B l.length d] w fun e w' => e = .returned (.pointer (some ⟨w.heap.size, 0, none⟩)) ∧ RecOk w' w.heap.size ts l ∧ Below w.heap.size w w' := by
  have HA := Lib.hid hA
  have HB := Lib.hid hB
  have FE := Lib.hid fe
  have FT := Lib.hid ft
  have HP := Lib.hid hp
  have HS := Lib.hid hs
  have hl1 : ts.length ≤ 8 := by
    have h8 : ¬ 8 < (lens ts).length := fun hh => hs (Or.inl hh)
    rw [lens_len] at h8; omega
  have hl2 := fe.len
  have SM := Lib.hid (fun (t : Nat) (tt : List OpD) (ht : ts[t]? = some tt) => show tt.length ≤ 16 from by
    have h16 : ¬ 16 < tt.length := fun hh => hs (big_of ht hh)
    omega)
  clear hA hB ft fe hp hs
  go_enter Tryz.func14, Tryz.ntmps14
  go_wp2_with fail
  have R0 : Hid (RecB w ts A c (fun _ _ => spN) (.slice none 0 0) [] (w.alloc (.cells #[.slice A ts.length c, .slice none 0 0] 82))) :=
    ⟨(heap_alloc w _).1, World.ownsRow_nil _ _ _ _, fun i b h => by simp at h, List.nodup_nil, balZ (Below.refl _ _) _⟩
  go_loopw [18] (fun i wr => SnRel w ts A c i wr) (fun i _ => ts.length - (intOf i).toNat)
  case atStart => exact ⟨0, _, _, by omega, rfl, rfl, R0.out⟩
  case round =>
    obtain ⟨T, v, bs, hT, rfl, hbl, hrec⟩ := hrel
    have RB := Lib.hid hrec
    clear hrec
    by_cases hlt : T < ts.length
    · obtain ⟨tt, htt⟩ : ∃ tt, ts[T]? = some tt := ⟨_, List.getElem?_eq_getElem hlt⟩
      obtain ⟨ba, offa, rfl, hba, hca⟩ := HA.out (by omega)
      obtain ⟨u, cu, k1, _⟩ := hca T tt htt
      have z1 := (RB.out.below.cell (p := ⟨ba, _, none⟩) hba).trans k1
      have hT0 : (0 : Int) ≤ T := by omega
      have hT1 : (T : Int) < ts.length := by omega
      have htl := SM.out T tt htt
      have HT := Lib.hid htt
      have hmk := make_spans tt.length (by omega)
      clear hca k1 htt
      go_wp2_with fail
      clear hmk z1
      have R1 := Lib.hid (RB.out.keep (balZ (Below.refl wr.heap.size wr) (.cells (spMade tt.length) 63)))
      have S1 := Lib.hid (sp_made wr tt.length)
      have hsz : wr.heap.size < (wr.alloc (.cells (spMade tt.length) 63)).heap.size := by simp
      have hgb := RB.out.below.size
      have HBS := Lib.hid (fun (i b' : Nat) (hi : bs[i]? = some b') => (RB.out.blk i b' hi).2.lt)
      have HVB : Hid (v.ownBlock ≠ some wr.heap.size) := fun e => by have := row_lt RB.out.row e; omega
      have hgb0 : w.heap.size < wr.heap.size := (Array.getElem?_eq_some_iff.1 RB.out.box).1
      generalize hR : wr.heap.size = b at *
      generalize hW : wr.alloc (.cells (spMade tt.length) 63) = W1 at *
      clear hR hW
      go_loopw [27] (fun i W => SnIn w ts (some ⟨ba, offa, none⟩) c v bs b tt.length i W) (fun i _ => tt.length - (intOf i).toNat)
      case atStart => exact ⟨0, by omega, rfl, R1.out, hsz, S1.out.congr fun i hi => by simp⟩
      case round =>
        obtain ⟨I, hI, rfl, hrec, hbw, hsp⟩ := hrel
        have RI := Lib.hid hrec
        have SI := Lib.hid hsp
        clear hrec hsp
        by_cases hlt2 : I < tt.length
        · have fz := SI.out.free
          have hI0 : (0 : Int) ≤ I := by omega
          have hI1 : (I : Int) < tt.length := by omega
          have SZ : ∀ (j : Nat) (v : Value), spZ.cells[j]? = some v → wr.cell? ⟨b, I * 10 + j, none⟩ = some v := fun j v hj => SI.out.cell hlt2 (by rw [if_neg (by omega)]; exact hj)
          have q0 := SZ 0 _ rfl
          have q1 := SZ 1 _ rfl
          have q2 := SZ 2 _ rfl
          have q3 := SZ 3 _ rfl
          have q4 := SZ 4 _ rfl
          have q5 := SZ 5 _ rfl
          have q6 := SZ 6 _ rfl
          have q7 := SZ 7 _ rfl
          have q8 := SZ 8 _ rfl
          have q9 := SZ 9 _ rfl
          simp only [Nat.add_zero] at q0
          clear SZ
          obtain ⟨P1, P2⟩ := SI.out.put hlt2 spN
          have RR : Hid (SnIn w ts (some ⟨ba, offa, none⟩) c v bs b tt.length (.int .i64 ((I : Int) + 1)) _) :=
            ⟨I + 1, by omega, by go_num, RI.out.away P2 hgb0 HBS.out HVB.out, by rw [P2.size]; exact hbw, P1.congr fun k hk => by
              show (if k = I then spN else if k < I then spN else spZ) = if k < I + 1 then spN else spZ
              by_cases hkI : k = I
              · simp [hkI]
              · by_cases hkl : k < I
                · rw [if_neg hkI, if_pos hkl, if_pos (by omega)]
                · rw [if_neg hkI, if_neg hkl, if_neg (by omega)]⟩
          clear P1 P2
          go_wp2_with fail
          go_roundw
          case rel => exact RR.out
          case measure => simp [intOf]; omega
        · have hIe : I = tt.length := by omega
          have S2 := Lib.hid (SI.out.congr (g := fun _ => spN) fun k hk => by rw [if_pos (by omega)])
          have y1 := (pair_cells RI.out.box).2
          clear hIe
          go_wp2_with (at_builtin; refine stopAt ?_)
          unfold StopAt
          refine wpList_app 80 83 Tryz.underlying80 _ 1 24 rowSp rfl (by decide) rfl _ _ rfl (w.heap.size + 1) _ v _ _ rfl (RI.out.row.alloc _) ⟨wr.heap.size, 0, none⟩ 1 1 [.slice (some ⟨b, 0, none⟩) tt.length tt.length] rfl rfl ?_ ?_ ?_ ?_ ?_ ?_
          · intro q u hu
            match q, hu with
            | 0, hu =>
              simp only [List.getElem?_cons_zero, Option.some.injEq] at hu
              subst hu
              rw [raddr]
              exact blk_cell (heap_alloc wr _).1 0
            | q + 1, hu => simp at hu
          · intro u hu
            simp only [List.mem_singleton] at hu
            subst hu
            rfl
          · have := RI.out.below.size
            simp; omega
          · unfold maxLen; omega
          · omega
          intro a3 c3 w3 ho3 hg3
          have box3 := (grown_block hg3 (Array.getElem?_eq_some_iff.1 RI.out.box).1 (fun e => by have := (row_kind RI.out.row e).1; omega)).trans RI.out.box
          obtain ⟨_, y3⟩ := pair_cells box3
          have fz3 := cells_free box3
          have RR : Hid (SnRel w ts (some ⟨ba, offa, none⟩) c (.int .i64 ((T : Int) + 1)) (w3.setCell ⟨w.heap.size, 1, none⟩ (.slice a3 (bs.length + 1) c3))) := by
            refine ⟨T + 1, _, _, by omega, by go_num, ?_, RI.out.push (b := b) ?_ HBS.out hgb0 ?_ hg3⟩
            · simp [hbl]
            · rw [hbl, lenT_at HT.out]; exact S2.out
            · rw [hbl, lenT_at HT.out]; rw [hbl] at ho3; exact ho3
          rw [hbl] at RR
          clear y1 box3 ho3 hg3
          go_wp2_with fail
          go_roundw
          case rel => exact RR.out
          case measure => simp [intOf]; omega
    · have hTe : T = ts.length := by omega
      subst hTe
      have RI : Hid (RecB w ts A c (fun t i => spanP (l.take 0) ((t : Int), (i : Int))) v bs wr) := RB.out
      clear RB
      go_wp2_with fail
      go_loopw [48] (fun i wr => EvRel w ts A c l v bs i wr) (fun i _ => l.length - (intOf i).toNat)
      case atStart => exact ⟨0, by omega, rfl, RI.out⟩
      case round =>
        obtain ⟨j, hj, rfl, hrec⟩ := hrel
        have RB := Lib.hid hrec
        clear hrec RI
        by_cases hlt2 : j < l.length
        · obtain ⟨e, hx⟩ : ∃ e, l[j]? = some e := ⟨_, List.getElem?_eq_getElem hlt2⟩
          obtain ⟨be, offe, rfl, hbe, hce⟩ := HB.out (by omega)
          have EO := HP.out j e hx
          have te := EO.t1
          have te0 := EO.t0
          obtain ⟨th, ix, rt, rs⟩ := e
          simp only at te te0
          rw [lens_len] at te
          obtain ⟨t, rfl⟩ : ∃ t : Nat, th = t := ⟨th.toNat, by omega⟩
          obtain ⟨tt, htt⟩ : ∃ tt, ts[t]? = some tt := ⟨_, List.getElem?_eq_getElem (by omega)⟩
          have hix := EO.idx
          have hlim := EO.lim tt.length (by simpa using lens_get htt)
          simp only at hix hlim
          obtain ⟨i, rfl⟩ : ∃ i : Nat, ix = i := ⟨ix.toNat, by omega⟩
          have hil : i < tt.length := by omega
          have htl := SM.out t tt htt
          obtain ⟨b, hb⟩ : ∃ b, bs[t]? = some b := ⟨_, List.getElem?_eq_getElem (by omega)⟩
          have KE := Lib.hid (fun (q : Nat) (u : Value) (hu : (EvD.cells ⟨t, i, rt, rs⟩)[q]? = some u) => (RB.out.below.cell (p := ⟨be, _, none⟩) hbe).trans (hce j _ hx q u hu))
          have e0 := KE.out 0 _ rfl
          have e1 := KE.out 1 _ rfl
          have e2 := KE.out 2 _ rfl
          have e3 := KE.out 3 _ rfl
          have e4 := KE.out 4 _ rfl
          have e5 := KE.out 5 _ rfl
          have e6 := KE.out 6 _ rfl
          have e7 := KE.out 7 _ rfl
          have e8 := KE.out 8 _ rfl
          have e9 := KE.out 9 _ rfl
          have e10 := KE.out 10 _ rfl
          simp only [Nat.add_zero] at e0
          have hj0 : (0 : Int) ≤ j := by omega
          have hj1 : (j : Int) < l.length := by omega
          have HX := Lib.hid hx
          have HTB := Lib.hid (And.intro htt hb)
          clear hce hx htt hb EO hix hlim te0
          go_upto_region 16 with fail
          obtain ⟨W1, hW1⟩ : ∃ W1, W1 = wr.alloc (.cells #[.int .i64 t, .int .i64 i, .bool rt, .int .i64 rs.err, .bool rs.found, .int .u64 rs.value, .string rs.key, .int .i64 rs.count, .int .i64 rs.ref, .int .i64 rs.root, .bool rs.ro] 47) := ⟨_, rfl⟩
          have B1 : Hid (Below wr.heap.size wr W1) := by rw [hW1]; exact balZ (Below.refl _ _) _
          have KV : Hid (W1.heap[wr.heap.size]? = some (.cells #[.int .i64 t, .int .i64 i, .bool rt, .int .i64 rs.err, .bool rs.found, .int .u64 rs.value, .string rs.key, .int .i64 rs.count, .int .i64 rs.ref, .int .i64 rs.root, .bool rs.ro] 47 (0, 0))) := by rw [hW1]; exact (heap_alloc wr _).1
          have RB1 := Lib.hid (RB.out.keep B1.out)
          rw [← hW1]
          clear hW1 e0 e1 e2 e3 e4 e5 e6 e7 e8 e9 e10
          generalize hev : wr.heap.size = ev at *
          clear hev
          obtain ⟨g, cap, hv⟩ := row_some RB1.out.row (by omega)
          have c1 := RB1.out.row.cells (g := g) (by rw [hv]; rfl) t _ (usOf_at HTB.out.2)
          rw [raddr, lenT_at HTB.out.1] at c1
          have y1 := (pair_cells RB1.out.box).2
          rw [hv] at y1
          clear hv
          have e0 := blk_cell KV.out 0
          have e1 := blk_cell KV.out 1
          have t0 : (0 : Int) ≤ t := by omega
          have t1 : (t : Int) < ts.length := by omega
          have i0 : (0 : Int) ≤ i := by omega
          have i1 : (i : Int) < tt.length := by omega
          simp only [List.getElem?_toArray, List.getElem?_cons_zero, List.getElem?_cons_succ] at e0 e1
          go_quiet (fail)
          have B2 : Hid (Below W1.heap.size W1 (W1.drewN nq)) := below_drewN (Below.refl _ _) _
          have RB2 := Lib.hid (RB1.out.keep B2.out)
          have KV2 := Lib.hid (kept_block KV.out B2.out)
          generalize W1.drewN nq = W2 at *
          clear e0 e1 y1 c1 B1 B2 KV RB1 RB
          have SB := Lib.hid ((RB2.out.blk t b HTB.out.2).2)
          have LT := Lib.hid (lenT_at HTB.out.1)
          have fz := SB.out.free
          have hil2 : i < lenT ts t := by rw [LT.out]; exact hil
          have SQ := Lib.hid (fun (q : Nat) (u : Value) (hu : (spanP (l.take j) ((t : Int), (i : Int))).cells[q]? = some u) => SB.out.cell (i := i) hil2 hu)
          have q0 := SQ.out 0 _ rfl
          have q1 := SQ.out 1 _ rfl
          have q2 := SQ.out 2 _ rfl
          have q3 := SQ.out 3 _ rfl
          have q4 := SQ.out 4 _ rfl
          have q5 := SQ.out 5 _ rfl
          have q6 := SQ.out 6 _ rfl
          have q7 := SQ.out 7 _ rfl
          have q8 := SQ.out 8 _ rfl
          have q9 := SQ.out 9 _ rfl
          simp only [Nat.add_zero] at q0
          have e2 := blk_cell KV2.out 2
          have e3 := blk_cell KV2.out 3
          have e4 := blk_cell KV2.out 4
          have e5 := blk_cell KV2.out 5
          have e6 := blk_cell KV2.out 6
          have e7 := blk_cell KV2.out 7
          have e8 := blk_cell KV2.out 8
          have e9 := blk_cell KV2.out 9
          have e10 := blk_cell KV2.out 10
          simp only [List.getElem?_toArray, List.getElem?_cons_zero, List.getElem?_cons_succ] at e2 e3 e4 e5 e6 e7 e8 e9 e10
          have NX : Hid (∀ (W : World) (x : SpD), spanP (l.take (j + 1)) ((t : Int), (i : Int)) = x → Turned b W2 W → SpBlk W b (lenT ts t) (updS (fun k => spanP (l.take j) ((t : Int), (k : Int))) i x) → EvRel w ts A c l v bs (.int .i64 ((j : Int) + 1)) W) := fun W x hx ht hs => by
            refine ⟨j + 1, by omega, by go_num, RB2.out.turn ht HTB.out.2 (hs.congr fun k hk => ?_) fun t' hne => ?_⟩
            · show (if k = i then x else _) = _
              by_cases hki : k = i
              · subst hki; rw [if_pos rfl]; exact hx.symm
              · rw [if_neg hki]; exact (spanP_away HP.out HX.out (fun h => hki (by have := congrArg Prod.snd h; simp only [EvD.op] at this; omega))).symm
            · funext k
              exact spanP_away HP.out HX.out fun h => hne (by have := congrArg Prod.fst h; simp only [EvD.op] at this; omega)
          have ST0 := Lib.hid (SB.out.start i)
          cases rt with
          | false =>
            have RR := Lib.hid (NX.out _ _ (spanP_inv HP.out HX.out rfl) (turned_set W2 b (i * 10 + 0) (.int .i64 j)) (ST0.out.upd (j := 0) hil2 rfl (by omega)))
            clear e3 e4 e5 e6 e7 e8 e9 e10 q1 q2 q3 q4 q5 q6 q7 q8 q9
            go_wp2_with fail
            go_roundw
            case rel => exact RR.out
            case measure => simp [intOf]; omega
          | true =>
            have hne : b ≠ ev := fun h => by
              subst h
              obtain ⟨cs, h1, _⟩ := SB.out
              rw [KV2.out] at h1
              simp only [Option.some.injEq, Obj.cells.injEq] at h1
              exact absurd h1.2.1 (by decide)
            have NR := Lib.hid (show spanP (l.take (j + 1)) ((t : Int), (i : Int)) = ⟨(spanP (l.take j) ((t : Int), (i : Int))).inv, j, rs⟩ from spanP_ret HP.out HX.out rfl)
            have KX : Hid (∀ W : World, Turned b W2 W → (W.cell? ⟨ev, 3, none⟩ = some (.int .i64 rs.err) ∧ W.cell? ⟨ev, 4, none⟩ = some (.bool rs.found) ∧ W.cell? ⟨ev, 5, none⟩ = some (.int .u64 rs.value) ∧ W.cell? ⟨ev, 6, none⟩ = some (.string rs.key) ∧ W.cell? ⟨ev, 7, none⟩ = some (.int .i64 rs.count) ∧ W.cell? ⟨ev, 8, none⟩ = some (.int .i64 rs.ref) ∧ W.cell? ⟨ev, 9, none⟩ = some (.int .i64 rs.root) ∧ W.cell? ⟨ev, 10, none⟩ = some (.bool rs.ro))) := fun W ht =>
              ⟨(ht.cell ev _ (Ne.symm hne)).trans e3, (ht.cell ev _ (Ne.symm hne)).trans e4, (ht.cell ev _ (Ne.symm hne)).trans e5, (ht.cell ev _ (Ne.symm hne)).trans e6, (ht.cell ev _ (Ne.symm hne)).trans e7, (ht.cell ev _ (Ne.symm hne)).trans e8, (ht.cell ev _ (Ne.symm hne)).trans e9, (ht.cell ev _ (Ne.symm hne)).trans e10⟩
            have TR := Lib.hid (turned_refl b W2)
            go_upto_region 18 with fail
            go_region_held3 (fun W => (W.cell? ⟨ev, 3, none⟩ = some (.int .i64 rs.err) ∧ W.cell? ⟨ev, 4, none⟩ = some (.bool rs.found) ∧ W.cell? ⟨ev, 5, none⟩ = some (.int .u64 rs.value) ∧ W.cell? ⟨ev, 6, none⟩ = some (.string rs.key) ∧ W.cell? ⟨ev, 7, none⟩ = some (.int .i64 rs.count) ∧ W.cell? ⟨ev, 8, none⟩ = some (.int .i64 rs.ref) ∧ W.cell? ⟨ev, 9, none⟩ = some (.int .i64 rs.root) ∧ W.cell? ⟨ev, 10, none⟩ = some (.bool rs.ro))) ((refine KX.out _ ?_; repeat' (first | (with_reducible exact TR.out) | (with_reducible refine turned_drew ?_) | (with_reducible refine turned_more ?_)))) (fail)
            have U1 := ST0.out.upd (j := 1) (v := .int .i64 j) (y := ⟨(spanP (l.take j) ((t : Int), (i : Int))).inv, j, (spanP (l.take j) ((t : Int), (i : Int))).res⟩) hil2 rfl (by omega)
            obtain ⟨U2, U3⟩ := U1.putRes hil2 rs
            have U4 := turned_drew (turned_trans (turned_set W2 b (i * 10 + 1) (.int .i64 j)) U3)
            have U5 := U2.drew
            have RR := Lib.hid (NX.out _ _ NR.out U4 U5)
            clear U4 U5
            clear U1 U2 U3 KX
            go_wp2_with fail
            go_roundw
            case rel => exact RR.out
            case measure => simp [intOf]; omega
        · have hje : j = l.length := by omega
          have FIN : Hid (RecOk wr w.heap.size ts l) := by
            refine ⟨RecB.done (c := c) (v := v) (f := fun t i => spanP l ((t : Int), (i : Int))) ?_ HA.out hbl, FT.out, HP.out, HS.out⟩
            have := RB.out
            rw [hje, List.take_length] at this
            exact this
          have BW := Lib.hid RB.out.below
          clear hje
          go_wp2_with fail
          go_ret
          exact ⟨rfl, FIN.out, BW.out⟩
end Go.Proofs.YtbmoehndnbbhcaaGreatDoor
namespace Go.Proofs.YtbmoehndnbbhcaaGreatDoor
set_option linter.unusedVariables false
set_option linter.unusedSimpArgs false
open Go Go.RowKit Go.MapKept
/-- the map that an operation reads or changes -/
def readsP (ts : List (List OpD)) (a : OpP) : Int :=
  if (opAt ts a).kind ≠ 13 then (opAt ts a).handle else match numP (lens ts) (opAt ts a).handle with
    | none => -1
    | some b => (opAt ts b).handle
theorem run_field_op1 (k hh v e : Int) (s : ByteArray) (W : World) : (Instr.field 60 (.agg #[.int .i64 k, .int .i64 hh, .string s, .int .u64 v, .int .u64 e]) 1).run Tryz.prog W = .ok (.int .i64 hh) W := by
  kernel_rfl
set_option maxRecDepth 100000 in
set_option maxHeartbeats 1000000 in
theorem lreads_any (w : World) (rb : Nat) (ts : List (List OpD)) (l : List EvD) (h : RecOk w rb ts l) (t i : Nat) (tt : List OpD) (o : OpD) (ht : ts[t]? = some tt) (ho : tt[i]? = some o) :
    Calls Tryz.prog 35 #[.pointer (some ⟨rb, 0, none⟩), .agg #[.int .i64 t, .int .i64 i]] w fun e w' => e = .returned (.int .i64 (readsP ts ((t : Int), (i : Int)))) ∧ Below w.heap.size w w' := by
  have H := Lib.hid h
  have HT := Lib.hid (And.intro ht ho)
  have hop : opAt ts ((t : Int), (i : Int)) = o := by unfold opAt; simp [ht, ho]
  have RP := Lib.hid (show readsP ts ((t : Int), (i : Int)) = if o.kind ≠ 13 then o.handle else match numP (lens ts) o.handle with | none => -1 | some b => (opAt ts b).handle by unfold readsP; rw [hop])
  clear h ht ho hop
  go_enter Tryz.func35, Tryz.ntmps35
  go_upto_region 1 with fail
  obtain ⟨W0, hW0⟩ : ∃ W0, W0 = w.alloc (.cells #[.int .i64 t, .int .i64 i] 37) := ⟨_, rfl⟩
  have BX : Hid (Below w.heap.size w W0) := by rw [hW0]; exact balZ (Below.refl _ _) _
  have KA : Hid (W0.heap[w.heap.size]? = some (opBox (t, i))) := by rw [hW0]; exact (heap_alloc w _).1
  rw [← hW0]
  clear hW0
  obtain ⟨y0, y1⟩ := opBox_cells KA.out
  go_wp2_with (first | (go_at_call 22; refine stopAt ?_))
  unfold StopAt
  refine (lop_any W0 rb ts _ (H.out.below BX.out).at_ H.out.fit t i tt o HT.out.1 HT.out.2).mono ?_
  rintro e w1 ⟨rfl, hb1⟩
  obtain ⟨W1, hW1⟩ : ∃ W1, W1 = w1.alloc (.cells #[.int .i64 o.kind, .int .i64 o.handle, .string o.key, .int .u64 o.value, .int .u64 o.expect] 60) := ⟨_, rfl⟩
  have B1 : Hid (Below W0.heap.size W0 W1) := by rw [hW1]; exact hb1.alloc hb1.size _
  have K1 : Hid (W1.heap[w1.heap.size]? = some (.cells #[.int .i64 o.kind, .int .i64 o.handle, .string o.key, .int .u64 o.value, .int .u64 o.expect] 60 (0, 0))) := by rw [hW1]; exact (heap_alloc w1 _).1
  have BW1 := Lib.hid (BX.out.trans (B1.out.mono BX.out.size))
  clear hb1 y0 y1
  go_upto_region 2 with fail
  rw [← hW1]
  clear hW1
  generalize w1.heap.size = ob at *
  obtain ⟨o0, o1⟩ := opO_cells K1.out
  obtain ⟨ok, oh, okey, ov, oe⟩ := o
  simp only at RP o0 o1 K1
  by_cases c1 : ok = 13
  · subst c1
    cases hn : numP (lens ts) oh with
    | none =>
      have R := Lib.hid (show readsP ts ((t : Int), (i : Int)) = -1 by rw [RP.out, if_neg (by simp), hn])
      have HN := Lib.hid hn
      clear hn
      go_wp2_with (first | (go_at_call 55; refine stopAt ?_))
      unfold StopAt
      refine (lnumbered_any W1 rb ts _ (H.out.below BW1.out).at_ H.out.fit oh).mono ?_
      rintro e w2 ⟨rfl, hb2⟩
      rw [HN.out]
      simp only [numOut]
      have BW2 := Lib.hid ((BW1.out.trans (hb2.mono BW1.out.size)).alloc (Nat.le_trans BW1.out.size hb2.size) (.cells #[.int .i64 0, .int .i64 0] 37))
      clear hb2
      go_wp2_with fail
      go_ret
      exact ⟨ret_int R.out.symm, BW2.out⟩
    | some b =>
      obtain ⟨tb, ib, ttb, ob2, rfl, htb, hob, hopb⟩ := exP_get (numP_ex hn)
      have R := Lib.hid (show readsP ts ((t : Int), (i : Int)) = ob2.handle by rw [RP.out, if_neg (by simp), hn]; simp only; rw [hopb])
      have HN := Lib.hid hn
      have HB := Lib.hid (And.intro htb hob)
      clear hn htb hob hopb
      go_wp2_with (first | (go_at_call 55; refine stopAt ?_))
      unfold StopAt
      refine (lnumbered_any W1 rb ts _ (H.out.below BW1.out).at_ H.out.fit oh).mono ?_
      rintro e w2 ⟨rfl, hb2⟩
      rw [HN.out]
      simp only [numOut]
      obtain ⟨W3, hW3⟩ : ∃ W3, W3 = w2.alloc (.cells #[.int .i64 tb, .int .i64 ib] 37) := ⟨_, rfl⟩
      have B3 : Hid (Below W1.heap.size W1 W3) := by rw [hW3]; exact hb2.alloc hb2.size _
      have K3 : Hid (W3.heap[w2.heap.size]? = some (opBox (tb, ib))) := by rw [hW3]; exact (heap_alloc w2 _).1
      have BW3 := Lib.hid (BW1.out.trans (B3.out.mono BW1.out.size))
      clear hb2
      go_upto_region 5 with fail
      rw [← hW3]
      clear hW3
      generalize w2.heap.size = nb at *
      obtain ⟨y0, y1⟩ := opBox_cells K3.out
      simp only at y0 y1
      go_wp2_with (first | (go_at_call 22; refine stopAt ?_))
      unfold StopAt
      refine (lop_any W3 rb ts _ (H.out.below BW3.out).at_ H.out.fit tb ib ttb ob2 HB.out.1 HB.out.2).mono ?_
      rintro e w4 ⟨rfl, hb4⟩
      have BW4 := Lib.hid (BW3.out.trans (hb4.mono BW3.out.size))
      clear hb4 y0 y1
      have FO := run_field_op1 ob2.kind ob2.handle ob2.value ob2.expect ob2.key
      go_wp2_with fail
      go_ret
      exact ⟨ret_int R.out.symm, BW4.out⟩
  · have R := Lib.hid (show readsP ts ((t : Int), (i : Int)) = oh by rw [RP.out, if_pos c1])
    have c1b : (ok == 13) = false := by simpa using c1
    have c1c : (ok != 13) = true := by simpa using c1
    go_wp2_with fail
    go_ret
    exact ⟨ret_int R.out.symm, BW1.out⟩
end Go.Proofs.YtbmoehndnbbhcaaGreatDoor
namespace Go.Proofs.YtbmoehndnbbhcaaGreatDoor
set_option linter.unusedVariables false
set_option linter.unusedSimpArgs false
open Go Go.RowKit Go.MapKept
/-- truth values for the numbers from 0 to 128 -/
def ndArr (f : Nat → Bool) : Array Value := ((List.range 129).map fun n => Value.bool (f n)).toArray
theorem nd_size (f : Nat → Bool) : (ndArr f).size = 129 := by simp [ndArr]
theorem nd_get (f : Nat → Bool) {n : Nat} (h : n < 129) : (ndArr f)[n]? = some (.bool (f n)) := by simp [ndArr, h]
theorem nd_set (f : Nat → Bool) (n : Nat) (b : Bool) : (ndArr f).setIfInBounds n (.bool b) = ndArr (fun k => if k = n then b else f k) := by
  apply Array.ext_getElem?
  intro k
  rw [Array.getElem?_setIfInBounds]
  by_cases hk : k < 129
  · rw [nd_get _ hk]
    by_cases hkn : n = k
    · subst hkn; rw [if_pos rfl, nd_get _ hk]; simp [nd_size, hk]
    · rw [if_neg hkn, nd_get _ hk, if_neg (fun e => hkn e.symm)]
  · have h1 : (ndArr f)[k]? = none := by simp [ndArr, hk]
    have h2 : (ndArr fun k => if k = n then b else f k)[k]? = none := by simp [ndArr, hk]
    rw [h1, h2]
    simp [nd_size]
    omega
def ndOff (f : Nat → Bool) : Nat := ((List.range 129).filter fun n => !f n).length
theorem filter_len_lt {α : Type} {p q : α → Bool} : ∀ {L : List α}, (∀ x ∈ L, q x = true → p x = true) → (∃ x ∈ L, p x = true ∧ q x = false) → (L.filter q).length < (L.filter p).length := by
  intro L
  induction L with
  | nil => rintro _ ⟨x, hx, _⟩; simp at hx
  | cons a t ih =>
    intro h ⟨x, hx, h1, h2⟩
    have hle : (t.filter q).length ≤ (t.filter p).length := by
      clear ih hx h1 h2
      have ht : ∀ x ∈ t, q x = true → p x = true := fun x hx => h x (.tail _ hx)
      clear h
      induction t with
      | nil => simp
      | cons b r ih2 =>
        have := ih2 fun x hx => ht x (.tail _ hx)
        have hb := ht b (.head _)
        cases hq : q b
        · cases hp : p b <;> simp [hq, hp] <;> omega
        · simp [hq, hb hq]; omega
    rcases List.mem_cons.1 hx with rfl | hx
    · simp [h1, h2]; omega
    · have := ih (fun x hx => h x (.tail _ hx)) ⟨x, hx, h1, h2⟩
      have ha := h a (.head _)
      cases hq : q a
      · cases hp : p a <;> simp [hq, hp] <;> omega
      · simp [hq, ha hq]; omega
theorem ndOff_set {f : Nat → Bool} {n : Nat} (h : n < 129) (hf : f n = false) : ndOff (fun k => if k = n then true else f k) < ndOff f := by
  refine filter_len_lt (fun x _ hx => ?_) ⟨n, by simpa using h, by simp [hf], by simp⟩
  by_cases hxn : x = n
  · subst hxn; simp at hx
  · simpa [hxn] using hx
/-- rows of numbers -/
def U32sAt (w : World) (A : Option Addr) (L : List Nat) : Prop := 0 < L.length → ∃ b off, A = some ⟨b, off, none⟩ ∧ b < w.heap.size ∧ ∀ (k x : Nat), L[k]? = some x → w.cell? ⟨b, off + k, none⟩ = some (.int .u32 x)
def IntsA (w : World) (A : Option Addr) (L : List Int) : Prop := 0 < L.length → ∃ b off, A = some ⟨b, off, none⟩ ∧ b < w.heap.size ∧ ∀ (k : Nat) (x : Int), L[k]? = some x → w.cell? ⟨b, off + k, none⟩ = some (.int .i64 x)
theorem U32sAt.below {w W : World} {A : Option Addr} {L : List Nat} (h : U32sAt w A L) (hB : Below w.heap.size w W) : U32sAt W A L := fun h0 => by
  obtain ⟨b, off, e, hb, hc⟩ := h h0
  exact ⟨b, off, e, Nat.lt_of_lt_of_le hb hB.size, fun k x hx => (hB.cell (p := ⟨b, _, none⟩) hb).trans (hc k x hx)⟩
theorem IntsA.below {w W : World} {A : Option Addr} {L : List Int} (h : IntsA w A L) (hB : Below w.heap.size w W) : IntsA W A L := fun h0 => by
  obtain ⟨b, off, e, hb, hc⟩ := h h0
  exact ⟨b, off, e, Nat.lt_of_lt_of_le hb hB.size, fun k x hx => (hB.cell (p := ⟨b, _, none⟩) hb).trans (hc k x hx)⟩
/-- a search, plain -/
structure SrD where
  cands : List OpP
  req : Nat
  early : List Nat
  kinds : List Int
  reads : List Int
  makes : List Int
structure SrFit (s : SrD) : Prop where
  n : s.cands.length ≤ 16
  early : s.early.length = s.cands.length
  kinds : s.kinds.length = s.cands.length
  reads : s.reads.length = s.cands.length
  makes : s.makes.length = s.cands.length
  req : s.req < 4294967296
  earl : ∀ x ∈ s.early, x < 4294967296
/-- a search in memory -/
structure SrAt (w : World) (sb rb fm : Nat) (s : SrD) : Prop where
  box : ∃ C cc E ce K ck R cr M cm, w.heap[sb]? = some (.cells #[.pointer (some ⟨rb, 0, none⟩), .slice C s.cands.length cc, .int .u32 s.req, .slice E s.early.length ce, .slice K s.kinds.length ck, .slice R s.reads.length cr, .slice M s.makes.length cm, .map (some fm)] 89 (0, 0)) ∧
    OrdAt w C s.cands ∧ U32sAt w E s.early ∧ IntsA w K s.kinds ∧ IntsA w R s.reads ∧ IntsA w M s.makes
theorem SrAt.below {w W : World} {sb rb fm : Nat} {s : SrD} (h : SrAt w sb rb fm s) (hB : Below w.heap.size w W) : SrAt W sb rb fm s := by
  obtain ⟨C, cc, E, ce, K, ck, R, cr, M, cm, h0, h1, h2, h3, h4, h5⟩ := h.box
  exact ⟨⟨C, cc, E, ce, K, ck, R, cr, M, cm, kept_block h0 hB, h1.below hB, h2.below hB, h3.below hB, h4.below hB, h5.below hB⟩⟩
theorem nd_alloc (w : World) : (w.alloc (.cells (ndArr fun _ => false) 128)).heap[w.heap.size]? = some (.cells (ndArr fun _ => false) 128 (0, 0)) := (heap_alloc w _).1
def hasB (f : Nat → Bool) (n : Int) : Bool := if 0 ≤ n ∧ n < 129 then f n.toNat else false
set_option maxRecDepth 100000 in
set_option maxHeartbeats 1000000 in
theorem nhas_any (w : World) (b : Nat) (f : Nat → Bool) (hb : w.heap[b]? = some (.cells (ndArr f) 128 (0, 0))) (n : Int) :
    Calls Tryz.prog 69 #[.pointer (some ⟨b, 0, none⟩), .int .i64 n] w fun e w' => e = .returned (.bool (hasB f n)) ∧ w = w' := by
  by_cases h0 : 0 ≤ n
  · by_cases h1 : n < 129
    · obtain ⟨k, rfl⟩ : ∃ k : Nat, n = k := ⟨n.toNat, by omega⟩
      have hk : k < 129 := by omega
      have c := (blk_cell hb k).trans (nd_get f hk)
      have R := Lib.hid (show hasB f (k : Int) = f k by unfold hasB; rw [if_pos ⟨h0, h1⟩]; rfl)
      clear hb
      generalize f k = fk at *
      go_enter Tryz.func69, Tryz.ntmps69
      go_wp2_with fail
      go_ret
      exact ⟨ret_bool R.out.symm, rfl⟩
    · have R := Lib.hid (show hasB f n = false by unfold hasB; rw [if_neg (by omega)])
      clear hb
      go_enter Tryz.func69, Tryz.ntmps69
      go_wp2_with fail
      go_ret
      exact ⟨ret_bool R.out.symm, rfl⟩
  · have R := Lib.hid (show hasB f n = false by unfold hasB; rw [if_neg (by omega)])
    clear hb
    go_enter Tryz.func69, Tryz.ntmps69
    go_wp2_with fail
    go_ret
    exact ⟨ret_bool R.out.symm, rfl⟩
def NdPost (w : World) (e : Ending) (w' : World) : Prop := ∃ f, e = .returned (.agg (ndArr f)) ∧ Below w.heap.size w w'
structure NdAt (w : World) (f : Nat → Bool) (wr : World) : Prop where
  out : wr.heap[w.heap.size]? = some (.cells (ndArr fun _ => false) 128 (0, 0))
  cur : wr.heap[w.heap.size + 1]? = some (.cells (ndArr f) 128 (0, 0))
  below : Below w.heap.size w wr
def NdRel (w : World) (k : Nat) (v : Value) (wr : World) : Prop := ∃ (b : Bool) (f : Nat → Bool), v = .bool b ∧ k = 2 * ndOff f + (if b then 1 else 0) ∧ NdAt w f wr
def NdIn (w : World) (N n : Nat) (k : Nat) (v i : Value) (wr : World) : Prop := ∃ (j : Nat) (b : Bool) (f : Nat → Bool), j ≤ n ∧ k = n - j ∧ i = .int .i64 j ∧ v = .bool b ∧ 2 * ndOff f + (if b then 1 else 0) < N ∧ NdAt w f wr
theorem setCells_heap {b : Nat} {T : TypeId} : ∀ (vs : List Value) (o : Nat) (w : World) (cs : Array Value), w.heap[b]? = some (.cells cs T (0, 0)) → o + vs.length ≤ cs.size →
    Turned b w (w.setCells b o vs) ∧ ∃ cs' : Array Value, (w.setCells b o vs).heap[b]? = some (.cells cs' T (0, 0)) ∧ cs'.size = cs.size ∧ (∀ j, j < o → cs'[j]? = cs[j]?) ∧ ∀ j v, vs[j]? = some v → cs'[o + j]? = some v
  | [], o, w, cs, h, _ => ⟨turned_refl b w, cs, h, rfl, fun _ _ => rfl, fun j v hv => by simp at hv⟩
  | v :: r, o, w, cs, h, hl => by
    rw [World.setCells]
    have h1 := cells_set (j := o) h v
    simp only [List.length_cons] at hl
    obtain ⟨ht, cs', k1, k2, k3, k4⟩ := setCells_heap r (o + 1) (w.setCell ⟨b, o, none⟩ v) _ h1 (by simp; omega)
    refine ⟨turned_trans (turned_set w b o v) ht, cs', k1, by rw [k2]; simp, fun j hj => ?_, fun j u hu => ?_⟩
    · rw [k3 j (by omega), Array.getElem?_setIfInBounds, if_neg (by omega)]
    · cases j with
      | zero =>
        simp only [List.getElem?_cons_zero, Option.some.injEq] at hu
        subst hu
        rw [Nat.add_zero, k3 o (by omega), Array.getElem?_setIfInBounds, if_pos rfl, if_pos (by omega)]
      | succ j =>
        have := k4 j u (by simpa using hu)
        rw [show o + (j + 1) = o + 1 + j by omega]
        exact this
theorem nd_store {w wr : World} {f : Nat → Bool} (h : NdAt w f wr) : (wr.setCells w.heap.size 0 (ndArr f).toList).heap[w.heap.size]? = some (.cells (ndArr f) 128 (0, 0)) ∧ Below w.heap.size w (wr.setCells w.heap.size 0 (ndArr f).toList) := by
  obtain ⟨ht, cs', k1, k2, k3, k4⟩ := setCells_heap (ndArr f).toList 0 wr _ h.out (by rw [Array.length_toList, nd_size, nd_size]; omega)
  refine ⟨?_, RecB.turned_below h.below ht (Nat.le_refl _)⟩
  have : cs' = ndArr f := by
    apply Array.ext_getElem?
    intro i
    by_cases hi : i < 129
    · have h1 := nd_get f hi
      rw [h1]
      have := k4 i (.bool (f i)) (by rw [Array.getElem?_toList]; exact h1)
      rwa [Nat.zero_add] at this
    · rw [Array.getElem?_eq_none (by rw [k2, nd_size]; omega), Array.getElem?_eq_none (by rw [nd_size]; omega)]
  rw [k1, this]
theorem nd_zero : Tryz.zeroCells128 = ndArr fun _ => false := by kernel_rfl
set_option maxRecDepth 100000 in
set_option maxHeartbeats 4000000 in
theorem needed_any (w : World) (sb rb fm : Nat) (s : SrD) (h : SrAt w sb rb fm s) (hf : SrFit s) (S : Nat) (hS : S < 4294967296) :
    Calls Tryz.prog 56 #[.pointer (some ⟨sb, 0, none⟩), .int .u32 S] w (NdPost w) := by
  have HF := Lib.hid hf
  have hn := hf.n
  have hlr := hf.reads
  have hlk := hf.kinds
  have hlm := hf.makes
  have hrq := hf.req
  obtain ⟨C, cc, E, ce, K, ck, R, cr, M, cm, h0, h1, h2, h3, h4, h5⟩ := h.box
  rw [hlr, hlk, hlm] at h0
  have hsl : sb < w.heap.size := (Array.getElem?_eq_some_iff.1 h0).1
  have CE : Hid (∀ W, Below w.heap.size w W → W.cell? ⟨sb, 2, none⟩ = some (.int .u32 s.req) ∧ W.cell? ⟨sb, 4, none⟩ = some (.slice K s.cands.length ck) ∧ W.cell? ⟨sb, 5, none⟩ = some (.slice R s.cands.length cr) ∧ W.cell? ⟨sb, 6, none⟩ = some (.slice M s.cands.length cm)) := fun W hW => by
    have hb := kept_block h0 hW
    exact ⟨blk_cell hb 2, blk_cell hb 4, blk_cell hb 5, blk_cell hb 6⟩
  have HR := Lib.hid h4
  have HK := Lib.hid h3
  have HM := Lib.hid h5
  have HLR := Lib.hid hlr
  have HLK := Lib.hid hlk
  have HLM := Lib.hid hlm
  clear h hf h0 h1 h2 h3 h4 h5 hlr hlk hlm
  go_enter Tryz.func56, Tryz.ntmps56
  go_upto_region 2 with fail
  obtain ⟨W0, hW0⟩ : ∃ W0, W0 = (w.alloc (.cells Tryz.zeroCells128 128)).alloc (.cells Tryz.zeroCells128 128) := ⟨_, rfl⟩
  have N0 : Hid (NdAt w (fun _ => false) W0) := by
    rw [hW0, nd_zero]
    exact ⟨(refu_w w _ _).2.1, (refu_w w _ _).2.2.1, (refu_w w _ _).1⟩
  rw [← hW0]
  clear hW0
  go_wp2_with fail
  go_loopg [6] (2 * ndOff (fun _ => false) + 1) (fun k v wr => NdRel w k v wr)
  case atStart => exact ⟨true, _, rfl, rfl, N0.out⟩
  case round =>
    clear N0
    obtain ⟨b, f, rfl, hk, hat⟩ := hrel
    have ND := Lib.hid hat
    have GK := Lib.hid hk
    clear hat hk
    cases b with
    | true =>
      have HN0 := Lib.hid (show 2 * ndOff f + (if false then 1 else 0) < gk by rw [GK.out]; simp)
      clear GK
      obtain ⟨e2, e4, e5, e6⟩ := CE.out wr ND.out.below
      obtain ⟨wo, rfl⟩ : ∃ wo : World, wo = wr := ⟨_, rfl⟩
      obtain ⟨go, rfl⟩ : ∃ go : Nat, go = gk := ⟨_, rfl⟩
      go_wp2_with fail
      clear e2 e4 e5 e6
      go_loopg [6, 16] s.cands.length (fun k v i wr => NdIn w go s.cands.length k v i wr)
      case atStart => exact ⟨0, false, f, by omega, rfl, rfl, rfl, HN0.out, ND.out⟩
      case round =>
        clear HN0 ND
        obtain ⟨j, b, f, hj, hkk, rfl, rfl, hoff, hat⟩ := hrel
        have OFF := Lib.hid hoff
        have NI := Lib.hid hat
        have HKK := Lib.hid hkk
        clear hoff hat hkk
        by_cases hlt : j < s.cands.length
        · obtain ⟨z, hz⟩ : ∃ z, s.reads[j]? = some z := ⟨_, List.getElem?_eq_getElem (by rw [HLR.out]; exact hlt)⟩
          obtain ⟨rbk, roff, rfl, hrb, hrc⟩ := HR.out (by rw [HLR.out]; omega)
          have c0 := (NI.out.below.cell (p := ⟨rbk, _, none⟩) hrb).trans (hrc j z hz)
          have hj0 : (0 : Int) ≤ j := by omega
          have hj1 : (j : Int) < s.cands.length := by omega
          clear hrc hz
          have NX : Hid (∀ W, NdAt w f W → NdIn w go s.cands.length (s.cands.length - (j + 1)) (.bool b) (.int .i64 ((j : Int) + 1)) W) := fun W hW => ⟨j + 1, b, f, by omega, rfl, by go_num, rfl, OFF.out, hW⟩
          have NX0 := Lib.hid (NX.out wr NI.out)
          by_cases hbit : bits BinOp.and IntKind.u32 ((S : Int) / 2 ^ j) 1 = 1
          · go_wp2_with fail
            go_roundg (s.cands.length - (j + 1))
            case rel => exact NX0.out
            case measure => rw [HKK.out]; omega
          by_cases hz0 : z < 0
          · go_wp2_with fail
            go_roundg (s.cands.length - (j + 1))
            case rel => exact NX0.out
            case measure => rw [HKK.out]; omega
          by_cases hz1 : 129 ≤ z
          · go_wp2_with fail
            go_roundg (s.cands.length - (j + 1))
            case rel => exact NX0.out
            case measure => rw [HKK.out]; omega
          obtain ⟨q, rfl⟩ : ∃ q : Nat, z = q := ⟨z.toNat, by omega⟩
          have hq : q < 129 := by omega
          have cq := (blk_cell NI.out.cur q).trans (nd_get f hq)
          cases hfq : f q with
          | true =>
            rw [hfq] at cq
            clear hfq
            go_wp2_with fail
            go_roundg (s.cands.length - (j + 1))
            case rel => exact NX0.out
            case measure => rw [HKK.out]; omega
          | false =>
            rw [hfq] at cq
            have SET : Hid (NdIn w go s.cands.length (s.cands.length - (j + 1)) (.bool true) (.int .i64 ((j : Int) + 1)) (wr.setCell ⟨w.heap.size + 1, q, none⟩ (.bool true))) := by
              have hd := ndOff_set hq hfq
              have ht := turned_set wr (w.heap.size + 1) q (.bool true)
              have ho := OFF.out
              refine ⟨j + 1, true, fun k => if k = q then true else f k, by omega, rfl, by go_num, rfl, ?_, (ht.block _ (by omega)).trans NI.out.out, ?_, RecB.turned_below NI.out.below ht (by omega)⟩
              · have : (if b = true then 1 else 0) ≥ 0 := Nat.zero_le _
                rw [if_pos rfl]
                omega
              · rw [cells_set NI.out.cur, nd_set]
            have fz := cells_free NI.out.cur q
            clear hfq
            obtain ⟨kd, hkd⟩ : ∃ z, s.kinds[j]? = some z := ⟨_, List.getElem?_eq_getElem (by rw [HLK.out]; exact hlt)⟩
            obtain ⟨kbk, koff, rfl, hkb, hkc⟩ := HK.out (by rw [HLK.out]; omega)
            have c1 := (NI.out.below.cell (p := ⟨kbk, _, none⟩) hkb).trans (hkc j kd hkd)
            obtain ⟨mk, hmk⟩ : ∃ z, s.makes[j]? = some z := ⟨_, List.getElem?_eq_getElem (by rw [HLM.out]; exact hlt)⟩
            obtain ⟨mbk, moff, rfl, hmb, hmc⟩ := HM.out (by rw [HLM.out]; omega)
            have c2 := (NI.out.below.cell (p := ⟨mbk, _, none⟩) hmb).trans (hmc j mk hmk)
            obtain ⟨e2, e4, e5, e6⟩ := CE.out wr NI.out.below
            clear hkc hkd hmc hmk
            go_upto_region 9 with fail
            go_wp2_with (go_at_call 69; (with_reducible refine (nhas_any _ _ f NI.out.cur _).mono ?_); rintro e w3 ⟨rfl, rfl⟩)
            all_goals
              go_roundg (s.cands.length - (j + 1))
              case rel => first | exact SET.out | exact NX0.out
              case measure => rw [HKK.out]; omega
        · have RR : Hid (NdRel w (2 * ndOff f + (if b then 1 else 0)) (.bool b) wr) := ⟨b, f, rfl, rfl, NI.out⟩
          go_wp2_with fail
          go_roundg (2 * ndOff f + (if b then 1 else 0))
          case rel => exact RR.out
          case measure => exact OFF.out
    | false =>
      have hin : (Tryz.prog.info? 128).map (·.size) = some (ndArr f).size := by rw [nd_size]; kernel_rfl
      have TH : Hid (wr.there w.heap.size 0 (ndArr f).size) := fun j hj => by
        rw [nd_size] at hj
        rw [Nat.zero_add]
        exact ⟨by rw [blk_cell ND.out.out, nd_get _ hj]; rfl, cells_free ND.out.out j⟩
      have HO : Hid ((ndArr f).all (·.oneCell') = true) := by
        refine all_oneCell_toArray fun v hv => ?_
        obtain ⟨n, _, rfl⟩ := List.mem_map.1 hv
        rfl
      have HI := Lib.hid hin
      have CUR := Lib.hid ND.out.cur
      have FIN : Hid ((wr.setCells w.heap.size 0 (ndArr f).toList).heap[w.heap.size]? = some (.cells (ndArr f) 128 (0, 0)) ∧ Below w.heap.size w (wr.setCells w.heap.size 0 (ndArr f).toList)) := nd_store ND.out
      clear hin
      generalize hA : ndArr f = Arr at *
      go_wp2_with fail
      rename_i hKK
      refine wp_load_row 128 _ rfl (w.heap.size + 1) rfl 128 Arr (0, 0) _ CUR.out Tryz.underlying128 rfl HI.out ?_
      refine hKK _ _ ?_
      simp only [Act.put, List.setIfInBounds_toArray, List.set_cons_zero, List.set_cons_succ]
      refine wpList_store_mid rfl 128 _ _ rfl w.heap.size 0 Arr rfl rfl TH.out HI.out HO.out ?_
      simp only [Act.put]
      clear hKK
      go_wp2_with fail
      refine bodyPost_ret (v := .agg Arr) (results_cell_row rfl _ _ w.heap.size 128 Arr (0, 0) _ rfl FIN.out.1 Tryz.underlying128 rfl HI.out) rfl ⟨f, by rw [hA], FIN.out.2⟩
end Go.Proofs.YtbmoehndnbbhcaaGreatDoor
