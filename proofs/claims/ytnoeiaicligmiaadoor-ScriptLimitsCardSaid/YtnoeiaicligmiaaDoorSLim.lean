/- The walk of ScriptLimits. -/
import Derived.Test.YtnoeiaicligmiaaDoorSBoxB
import Derived.Deep.RegionLaw
namespace Go.Proofs.YtnoeiaicligmiaaDoor
set_option linter.unusedVariables false
set_option linter.unusedSimpArgs false
open Go Go.RowKit
theorem made_ints (k : Nat) : (madeCells (Value.int .i64 0).cells (k * 1)).toList = (List.replicate k (0 : Int)).map (.int .i64) := by
  have hC : (Value.int .i64 0).cells = #[Value.int .i64 0] := rfl
  rw [hC]
  apply List.ext_getElem?
  intro i
  by_cases hi : i < k
  · simp [madeCells, hi, Nat.mod_one]
  · simp [madeCells, hi]
theorem run_make_ints (k : Nat) (hk : k ≤ 1048576) : ∃ Z : Array Value, (∀ W : World, (Instr.makeSlice 23 (.int .i64 (k : Int)) (.int .i64 (k : Int))).run Tryd.prog W = .ok (.slice (some ⟨W.heap.size, 0, none⟩) k k) (W.alloc (.cells Z 3))) ∧
    ∀ (W : World) (B : Nat), B ≤ W.heap.size → (W.alloc (.cells Z 3)).ownsRow B 3 1 (.slice (some ⟨W.heap.size, 0, none⟩) k k) (List.replicate k (0 : Int)).length ((List.replicate k (0 : Int)).map (.int .i64)) := by
  obtain ⟨i0, hi, hz0, hz1, hz2⟩ := info_parts int_info
  refine ⟨madeCells (Value.int .i64 0).cells (k * 1), fun W => ?_, fun W B hB => ?_⟩
  · have hr := run_make (P := Tryd.prog) W 23 3 i0 _ Tryd.underlying23 hi hz0 .i64 .i64 k k (by omega) (Int.le_refl _) (by rw [hz2]; omega) (by omega)
    simp only [Int.toNat_natCast] at hr
    rw [hz1] at hr
    exact hr
  · rw [← made_ints, List.length_replicate]
    exact World.ownsRow_lit W _ k hB (by unfold maxLen; omega) (size_madeCells _ _)
def limS (k p j : Nat) : PS := ⟨⟨0, List.replicate j (List.replicate k opZ), List.replicate p 0⟩, true, true⟩
def LimRel (w : World) (n k p : Nat) (i : Value) (wr : World) : Prop :=
  ∃ (j : Nat) (vt vp : Value) (us : List Value), j ≤ n ∧ i = .int .i64 j ∧ BoxAt w.heap.size w wr (w.heap.size + 1) (limS k p j) vt vp us
theorem lim_start (w : World) (p k : Nat) (Z : Array Value) (h : (w.alloc (.cells Z 3)).ownsRow w.heap.size 3 1 (.slice (some ⟨w.heap.size, 0, none⟩) p p) (List.replicate p (0 : Int)).length ((List.replicate p (0 : Int)).map (.int .i64))) :
    BoxAt w.heap.size w ((w.alloc (.cells Z 3)).alloc (.cells #[.int .u64 0, .slice none 0 0, .slice (some ⟨w.heap.size, 0, none⟩) p p] 32)) (w.heap.size + 1) (limS k p 0) (.slice none 0 0) (.slice (some ⟨w.heap.size, 0, none⟩) p p) [] := by
  refine ⟨by omega, ?_, World.ownsRow_nil _ _ _ _, rfl, fun i u t hu => by simp at hu, fun i j u v b hu => by simp at hu, h.alloc _, ((Below.refl _ _).alloc (Nat.le_refl _) _).alloc (by simp) _, by simp; omega⟩
  have := (MapKept.heap_alloc (w.alloc (.cells Z 3)) (.cells #[.int .u64 0, .slice none 0 0, .slice (some ⟨w.heap.size, 0, none⟩) p p] 32)).1
  rw [show (w.alloc (.cells Z 3)).heap.size = w.heap.size + 1 by simp] at this
  exact this
theorem lim_step {w wr w6 : World} {k p j : Nat} {vt vp : Value} {us : List Value} {P : Nat} {Z : Array Value} {a6 : Option Addr} {c6 : Nat} (h : BoxAt w.heap.size w wr P (limS k p j) vt vp us)
    (hz : (wr.alloc (.cells Z 39)).ownsRow w.heap.size 39 5 (.slice (some ⟨wr.heap.size, 0, none⟩) k k) (List.replicate k opZ).length ((List.replicate k opZ).flatMap opC))
    (hg : (((wr.alloc (.cells Z 39)).alloc (.cells #[.slice (some ⟨wr.heap.size, 0, none⟩) k k] 49)).drew).grownBy w6 vt.ownBlock) (ho : w6.ownsRow w.heap.size 49 1 (.slice a6 (us.length + 1) c6) (us.length + 1) (us ++ [.slice (some ⟨wr.heap.size, 0, none⟩) k k])) :
    BoxAt w.heap.size w (w6.setCell ⟨P, 1, none⟩ (.slice a6 (us.length + 1) c6)) P (limS k p (j + 1)) (.slice a6 (us.length + 1) c6) vp (us ++ [.slice (some ⟨wr.heap.size, 0, none⟩) k k]) := by
  have hb : Below wr.heap.size wr (((wr.alloc (.cells Z 39)).alloc (.cells #[.slice (some ⟨wr.heap.size, 0, none⟩) k k] 49)).drew) := ((((Below.refl _ _).alloc (Nat.le_refl _) _).alloc (by simp) _).drew)
  have := (h.above hb).addT hg (.slice (some ⟨wr.heap.size, 0, none⟩) k k) (List.replicate k opZ) ((hz.alloc _).drew) (fun i v b hi hv he => by
    have hlt : i < us.length := (List.getElem?_eq_some_iff.1 hi).1
    have hlt2 : i < (limS k p j).scr.threads.length := by rw [← h.hus]; exact hlt
    have h1 := row_lt (h.ops i v _ hi (List.getElem?_eq_getElem hlt2)) hv
    simp only [Value.ownBlock, Option.some.injEq] at he
    omega) ho
  have e : limS k p (j + 1) = { limS k p j with scr := { (limS k p j).scr with threads := (limS k p j).scr.threads ++ [List.replicate k opZ] } } := by
    simp [limS, List.replicate_succ']
  rw [e]
  exact this
theorem lim_check (k p n : Nat) (hp : p ≤ 299) : checkS (limS k p n).scr = if 8 < n ∨ (0 < n ∧ 16 < k) then 3 else 0 := by
  have hl : (limS k p n).scr.threads.length = n := by simp [limS]
  have hq : (limS k p n).scr.picks.length = p := by simp [limS]
  have ha : (limS k p n).scr.threads.any (fun t => decide (16 < t.length)) = decide (0 < n ∧ 16 < k) := by
    rw [Bool.eq_iff_iff, List.any_eq_true, decide_eq_true_iff]
    constructor
    · rintro ⟨t, ht, h⟩
      simp only [limS, List.mem_replicate] at ht
      obtain ⟨h1, rfl⟩ := ht
      simp at h
      omega
    · intro h
      exact ⟨List.replicate k opZ, by simp [limS]; omega, by simp; omega⟩
  unfold checkS
  rw [hl, hq, ha]
  by_cases h8 : 8 < n
  · rw [if_pos (Or.inl h8), if_pos (Or.inl h8)]
  · rw [if_neg (by omega)]
    by_cases h16 : 0 < n ∧ 16 < k
    · rw [if_pos (by simpa using h16), if_pos (Or.inr h16)]
    · rw [if_neg (by simpa using h16), if_neg (by omega)]
theorem limS_ok (k p n : Nat) : ScrOk (limS k p n).scr := by
  refine ⟨by simp [limS], by simp [limS], fun t ht o ho => ?_, fun x hx => ?_⟩
  · simp only [limS, List.mem_replicate] at ht
    obtain ⟨_, rfl⟩ := ht
    rw [List.mem_replicate] at ho
    obtain ⟨_, rfl⟩ := ho
    exact ⟨by decide, by decide, by decide, by decide, by decide, by decide, by decide, by decide⟩
  · simp only [limS, List.mem_replicate] at hx
    obtain ⟨_, rfl⟩ := hx
    omega
theorem flat_rep {α : Type} (n : Nat) (x : α) (f : α → List UInt8) : ((List.replicate n x).flatMap f).length = n * (f x).length := by
  induction n with
  | zero => simp
  | succ n ih => rw [List.replicate_succ, List.flatMap_cons, List.length_append, ih, Nat.add_mul]; omega
theorem lineZ : (lineT opZ).length = 10 := by
  simp [lineT, opZ, keyT, natT, Lib.itoa, dec_one]
theorem lim_len (k p n : Nat) (hk : k ≤ 16) (hp : p ≤ 299) (hn : n ≤ 8) : (textS (limS k p n).scr).length ≤ 1048576 := by
  have h1 : (threadT (List.replicate k opZ)).length = 7 + k * 10 := by
    unfold threadT
    rw [List.length_append, List.length_cons, flat_rep, lineZ]
    simp [threadW]
    omega
  have h2 : ((List.replicate p (0 : Int)).flatMap (fun p => 32 :: Lib.itoa p)).length = p * 2 := by
    rw [flat_rep]
    simp [Lib.itoa, dec_one]
  have h3 : ((List.replicate n (List.replicate k opZ)).flatMap threadT).length = n * (7 + k * 10) := by rw [flat_rep, h1]
  have h4 : n * (7 + k * 10) ≤ 8 * (7 + 16 * 10) := Nat.mul_le_mul hn (by omega)
  have h0 : (natT 0).length = 1 := by simp [natT, dec_one]
  unfold textS
  simp only [limS, List.length_append, List.length_cons, h2, h3, h0, List.length_nil]
  simp [maskW, picksW]
  omega
theorem lim_format (k p n : Nat) (hp : p ≤ 299) : (formatS (limS k p n).scr).2 = checkS (limS k p n).scr := by
  unfold formatS
  by_cases h : 8 < n ∨ (0 < n ∧ 16 < k)
  · have e : checkS (limS k p n).scr = 3 := by rw [lim_check k p n hp, if_pos h]
    rw [e]; rfl
  · have e : checkS (limS k p n).scr = 0 := by rw [lim_check k p n hp, if_neg h]
    rw [e, if_neg (by simp), if_neg]
    by_cases h0 : 0 < n
    · have := lim_len k p n (by omega) hp (by omega)
      unfold maxText
      omega
    · obtain rfl : n = 0 := by omega
      have e2 : limS k p 0 = limS 0 p 0 := rfl
      have := lim_len 0 p 0 (by omega) hp (by omega)
      rw [e2]
      unfold maxText
      omega
theorem lim_sum (k p n : Nat) : sumL (limS k p n).scr.threads = (n : Int) * k := by
  simp only [limS]
  induction n with
  | zero => simp [sumL]
  | succ n ih =>
    rw [List.replicate_succ]
    simp only [sumL, List.map_cons, List.sum_cons, List.length_replicate] at ih ⊢
    simp at ih ⊢
    grind
theorem lim_scr {B : Nat} {w0 w : World} {P k p n : Nat} {vt vp : Value} {us : List Value} (h : BoxAt B w0 w P (limS k p n) vt vp us) (hk : k ≤ 23) (hp : p ≤ 299) (hn : n ≤ 13) : ∃ A c D d, vt = .slice A n c ∧ vp = .slice D p d ∧ ScrAt w A D (limS k p n).scr := by
  obtain ⟨A, c, D, d, h1, h2, h3⟩ := h.scr ⟨⟨by simp [limS]; omega, fun t ht => by
    simp only [limS, List.mem_replicate] at ht
    obtain ⟨_, rfl⟩ := ht
    simp; omega⟩, by simp [limS]; omega⟩
  refine ⟨A, c, D, d, ?_, ?_, h3⟩
  · rw [h1]; simp [limS]
  · rw [h2]; simp [limS]
def FmtPost (V : Int) (W : World) (e : Ending) (w' : World) : Prop := ∃ t, e = .returned (.tuple #[.string t, .int .i64 V]) ∧ Below W.heap.size W w'
theorem lim_fmt {W : World} {A D : Option Addr} {k p n : Nat} (c d : Nat) (V : Int) (h : ScrAt W A D (limS k p n).scr) (env : Env W) (hp : p ≤ 299) (hV : checkS (limS k p n).scr = V) : Calls Tryd.prog 16 #[.agg #[.int .u64 0, .slice A n c, .slice D p d]] W (FmtPost V W) := by
  have := format_any W A D c d _ h (limS_ok k p n) env.tab
  rw [lim_format k p n hp, hV] at this
  have e1 : (limS k p n).scr.threads.length = n := by simp [limS]
  have e2 : (limS k p n).scr.picks.length = p := by simp [limS]
  rw [e1, e2] at this
  exact this.mono fun e w' ⟨h1, h2⟩ => ⟨_, h1, h2⟩
theorem lim_chk {W : World} {A D : Option Addr} {k p n : Nat} (c d : Nat) (V : Int) (h : ScrAt W A D (limS k p n).scr) (hV : checkS (limS k p n).scr = V) : Calls Tryd.prog 20 #[.agg #[.int .u64 0, .slice A n c, .slice D p d]] W fun e w' => e = .returned (.int .i64 V) ∧ Below W.heap.size W w' := by
  have := check_any W A D c d _ h
  rw [hV] at this
  have e1 : (limS k p n).scr.threads.length = n := by simp [limS]
  have e2 : (limS k p n).scr.picks.length = p := by simp [limS]
  rw [e1, e2] at this
  exact this
theorem lim_ops {W : World} {A D : Option Addr} {k p n : Nat} (c d : Nat) (h : ScrAt W A D (limS k p n).scr) (hk : k ≤ 23) (hn : n ≤ 13) : Calls Tryd.prog 21 #[.agg #[.int .u64 0, .slice A n c, .slice D p d]] W fun e w' => e = .returned (.int .i64 ((n : Int) * k)) ∧ Below W.heap.size W w' := by
  have := ops_any W A D c d _ h (by simp [limS]; omega) (fun t ht => by
    simp only [limS, List.mem_replicate] at ht
    obtain ⟨_, rfl⟩ := ht
    simp; omega)
  rw [lim_sum] at this
  have e1 : (limS k p n).scr.threads.length = n := by simp [limS]
  have e2 : (limS k p n).scr.picks.length = p := by simp [limS]
  rw [e1, e2] at this
  exact this
theorem grown_two {w w' : World} {o o' : Obj} {row : Option Nat} (hg : ((w.alloc o).alloc o').drew.grownBy w' row) {k : Nat} (hk : k < w.heap.size) (hr : row ≠ some k) : w'.heap[k]? = w.heap[k]? := by
  have := hg.block k (by show k < ((w.alloc o).alloc o').heap.size; simp; omega) (fun e => hr e.symm)
  rw [this]
  exact (Below.heap_alloc _ _ _ (by simp; omega)).trans (Below.heap_alloc _ _ _ hk)
theorem box3 {w wr : World} {P k p n : Nat} {A D : Option Addr} {c d : Nat} {us : List Value} {B : Nat} (h : BoxAt B w wr P (limS k p n) (.slice A n c) (.slice D p d) us) : wr.heap[P]? = some (.cells #[.int .u64 0, .slice A n c, .slice D p d] 32 (0, 0)) := h.par
set_option maxRecDepth 100000 in
set_option maxHeartbeats 4000000 in
theorem scriptLimits_walk (a b c : Int) (w : World) (ha : 0 ≤ a ∧ a ≤ 65535) (hb : 0 ≤ b ∧ b ≤ 65535) (hc : 0 ≤ c ∧ c ≤ 65535) (env : Env w) :
    Calls Tryd.prog 6 #[.int .u16 a, .int .u16 b, .int .u16 c] w fun e w' => e = .returned (.bool true) ∧ Below w.heap.size w w' := by
  obtain ⟨ha0, ha1⟩ := ha
  obtain ⟨hb0, hb1⟩ := hb
  obtain ⟨hc0, hc1⟩ := hc
  obtain ⟨n, hn⟩ : ∃ n : Nat, a % 14 = n := ⟨(a % 14).toNat, by omega⟩
  obtain ⟨k, hk⟩ : ∃ n : Nat, b % 24 = n := ⟨(b % 24).toNat, by omega⟩
  obtain ⟨p, hp⟩ : ∃ n : Nat, c % 300 = n := ⟨(c % 300).toNat, by omega⟩
  have hn1 : n ≤ 13 := by omega
  have hk1 : k ≤ 23 := by omega
  have hp1 : p ≤ 299 := by omega
  obtain ⟨ZP, mkp, ownp⟩ := run_make_ints p (by omega)
  obtain ⟨ZK, mkk, ownk⟩ := run_make_ops k (by omega)
  have OP := Lib.hid ownp
  have OK := Lib.hid ownk
  have E := Lib.hid env
  have MK := Lib.hid mkk
  clear ownp ownk env mkk
  go_enter Tryd.func6, Tryd.ntmps6
  go_wp2_with fail
  have S0 := Lib.hid (lim_start w p k ZP (OP.out w w.heap.size (Nat.le_refl _)))
  clear mkp hn hk hp ha0 ha1 hb0 hb1 hc0 hc1
  go_loopw [10] (fun i wr => LimRel w n k p i wr) (fun i _ => n - (intOf i).toNat)
  case atStart => exact ⟨0, _, _, _, by omega, rfl, S0.out⟩
  case round =>
    obtain ⟨j, vt, vp, us, hj, rfl, hbx⟩ := hrel
    have hus : us.length = j := by rw [hbx.hus]; simp [limS]
    have HUS := Lib.hid hus
    by_cases hlt : j < n
    · have hul : us.length ≤ 1048576 := by omega
      obtain ⟨at1, ct1, hvt⟩ := row_form hbx.thr
      subst hvt
      have H := Lib.hid hbx
      have hz := hbx.lt
      have y1 : wr.cell? ⟨w.heap.size + 1, 1, none⟩ = some (.slice at1 us.length ct1) := hbx.cell 1
      have f1 : wr.frozen? ⟨w.heap.size + 1, 1, none⟩ = false := blk_frozen hbx.par 1
      have mkk := MK.out
      have y1a : (wr.alloc (.cells ZK 39)).cell? ⟨w.heap.size + 1, 1, none⟩ = some (.slice at1 us.length ct1) := (World.cell?_of_block (a := ⟨w.heap.size + 1, 1, none⟩) (Below.heap_alloc wr _ _ hz)).trans y1
      have y1b : ((wr.alloc (.cells ZK 39)).alloc (.cells #[.slice (some ⟨wr.heap.size, 0, none⟩) k k] 49)).cell? ⟨w.heap.size + 1, 1, none⟩ = some (.slice at1 us.length ct1) := (World.cell?_of_block (a := ⟨w.heap.size + 1, 1, none⟩) (Below.heap_alloc _ _ _ (by simp; omega))).trans y1a
      clear hbx hus
      go_wp2_with fail
      go_region_law ((refine step_thr rfl _ _ rfl w.heap.size _ _ _ _ ((H.out.thr.alloc _).alloc _).drew rfl ⟨wr.heap.size + 1, 0, none⟩ rfl (.slice (some ⟨wr.heap.size, 0, none⟩) k k) rfl (by simp) (Nat.le_trans H.out.size (by simp; omega)) hul ?_); intro a6 c6 w6 ho6 hg6; (have O6 := Lib.hid ho6); (have G6 := Lib.hid hg6); (have z1 := (World.cell?_of_block (a := ⟨w.heap.size + 1, 1, none⟩) (grown_two hg6 hz (row_ne H.out.thr H.out.par (by decide)))).trans y1); (have zf := (World.frozen?_of_block (a := ⟨w.heap.size + 1, 1, none⟩) (grown_two hg6 hz (row_ne H.out.thr H.out.par (by decide)))).trans f1); clear ho6 hg6)
      all_goals
        clear mkk y1a y1b
        go_wp2_with fail
        refine ⟨⟨j + 1, _, _, _, by omega, by go_num, lim_step H.out (OK.out wr _ H.out.size) G6.out O6.out⟩, by simp [intOf]; omega⟩
    · obtain rfl : j = n := by omega
      obtain ⟨A, c1, D, d1, rfl, rfl, hscr⟩ := lim_scr hbx hk1 hp1 hn1
      have H := Lib.hid hbx
      have HS := Lib.hid hscr
      have hz := hbx.lt
      have y0 : wr.cell? ⟨w.heap.size + 1, 0, none⟩ = some (.int .u64 0) := hbx.cell 0
      have y1 : wr.cell? ⟨w.heap.size + 1, 1, none⟩ = some (.slice A j c1) := hbx.cell 1
      have y2 : wr.cell? ⟨w.heap.size + 1, 2, none⟩ = some (.slice D p d1) := hbx.cell 2
      have E0 := Lib.hid (E.out.below hbx.below)
      have hmul0 : (0 : Int) ≤ (j : Int) * k := by
        have : (0 : Int) ≤ ((j * k : Nat) : Int) := Int.natCast_nonneg _
        simpa using this
      have hmul1 : (j : Int) * k ≤ 299 := by
        have : j * k ≤ 13 * 23 := Nat.mul_le_mul hn1 hk1
        have h2 : ((j * k : Nat) : Int) ≤ 299 := by omega
        simpa using h2
      obtain ⟨V, hV⟩ : ∃ V, checkS (limS k p j).scr = V := ⟨_, rfl⟩
      have hV2 := hV
      rw [lim_check k p j hp1] at hV2
      have FM := Lib.hid (lim_fmt c1 d1 V hscr E0.out hp1 hV)
      have CK := Lib.hid (fun W h => lim_chk (W := W) (A := A) (D := D) c1 d1 V h hV)
      have OA := Lib.hid (fun W h => lim_ops (W := W) (A := A) (D := D) (p := p) c1 d1 h hk1 hn1)
      clear hbx hscr hV hus MK OK OP HUS S0
      by_cases h8 : 8 < j
      · rw [if_pos (Or.inl h8)] at hV2
        subst hV2
        go_wp2_with fail
        refine FM.out.mono ?_
        rintro e w1 ⟨t, rfl, hb1⟩
        have B1 := Lib.hid hb1
        have E1 := Lib.hid (E0.out.below hb1)
        have x0 := (hb1.cell (p := ⟨w.heap.size + 1, 0, none⟩) hz).trans y0
        have x1 := (hb1.cell (p := ⟨w.heap.size + 1, 1, none⟩) hz).trans y1
        have x2 := (hb1.cell (p := ⟨w.heap.size + 1, 2, none⟩) hz).trans y2
        have hz1 := Nat.lt_of_lt_of_le hz hb1.size
        clear hb1 y0 y1 y2
        go_wp2_with fail
        refine (awake_any w1 E1.out).mono ?_
        rintro e w2 ⟨rfl, hb2⟩
        have B2 := Lib.hid hb2
        have v0 := (hb2.cell (p := ⟨w.heap.size + 1, 0, none⟩) hz1).trans x0
        have v1 := (hb2.cell (p := ⟨w.heap.size + 1, 1, none⟩) hz1).trans x1
        have v2 := (hb2.cell (p := ⟨w.heap.size + 1, 2, none⟩) hz1).trans x2
        have hz2 := Nat.lt_of_lt_of_le hz1 hb2.size
        clear hb2 x0 x1 x2
        go_wp2_with fail
        refine (CK.out w2 (HS.out.below (B1.out.trans (B2.out.mono B1.out.size)))).mono ?_
        rintro e w3 ⟨rfl, hb3⟩
        have B3 := Lib.hid hb3
        have r0 := (hb3.cell (p := ⟨w.heap.size + 1, 0, none⟩) hz2).trans v0
        have r1 := (hb3.cell (p := ⟨w.heap.size + 1, 1, none⟩) hz2).trans v1
        have r2 := (hb3.cell (p := ⟨w.heap.size + 1, 2, none⟩) hz2).trans v2
        clear hb3 v0 v1 v2
        go_wp2_with fail
        refine (OA.out w3 (HS.out.below ((B1.out.trans (B2.out.mono B1.out.size)).trans (B3.out.mono (Nat.le_trans B1.out.size B2.out.size))))).mono ?_
        rintro e w4 ⟨rfl, hb4⟩
        have B4 := Lib.hid hb4
        clear hb4 r0 r1 r2
        go_wp2_with fail
        go_ret
        exact ⟨rfl, H.out.below.trans ((((B1.out.trans (B2.out.mono B1.out.size)).trans (B3.out.mono (Nat.le_trans B1.out.size B2.out.size))).trans (B4.out.mono (Nat.le_trans (Nat.le_trans B1.out.size B2.out.size) B3.out.size))).mono H.out.size)⟩
      · have t8 : decide ((8 : Int) < (j : Int)) = false := decide_eq_false (by omega)
        by_cases h0 : 0 < j
        · by_cases h16 : 16 < k
          · rw [if_pos (Or.inr ⟨h0, h16⟩)] at hV2
            subst hV2
            go_wp2_with fail
            refine FM.out.mono ?_
            rintro e w1 ⟨t, rfl, hb1⟩
            have B1 := Lib.hid hb1
            have E1 := Lib.hid (E0.out.below hb1)
            have x0 := (hb1.cell (p := ⟨w.heap.size + 1, 0, none⟩) hz).trans y0
            have x1 := (hb1.cell (p := ⟨w.heap.size + 1, 1, none⟩) hz).trans y1
            have x2 := (hb1.cell (p := ⟨w.heap.size + 1, 2, none⟩) hz).trans y2
            have hz1 := Nat.lt_of_lt_of_le hz hb1.size
            clear hb1 y0 y1 y2
            go_wp2_with fail
            refine (awake_any w1 E1.out).mono ?_
            rintro e w2 ⟨rfl, hb2⟩
            have B2 := Lib.hid hb2
            have v0 := (hb2.cell (p := ⟨w.heap.size + 1, 0, none⟩) hz1).trans x0
            have v1 := (hb2.cell (p := ⟨w.heap.size + 1, 1, none⟩) hz1).trans x1
            have v2 := (hb2.cell (p := ⟨w.heap.size + 1, 2, none⟩) hz1).trans x2
            have hz2 := Nat.lt_of_lt_of_le hz1 hb2.size
            clear hb2 x0 x1 x2
            go_wp2_with fail
            refine (CK.out w2 (HS.out.below (B1.out.trans (B2.out.mono B1.out.size)))).mono ?_
            rintro e w3 ⟨rfl, hb3⟩
            have B3 := Lib.hid hb3
            have r0 := (hb3.cell (p := ⟨w.heap.size + 1, 0, none⟩) hz2).trans v0
            have r1 := (hb3.cell (p := ⟨w.heap.size + 1, 1, none⟩) hz2).trans v1
            have r2 := (hb3.cell (p := ⟨w.heap.size + 1, 2, none⟩) hz2).trans v2
            clear hb3 v0 v1 v2
            go_wp2_with fail
            refine (OA.out w3 (HS.out.below ((B1.out.trans (B2.out.mono B1.out.size)).trans (B3.out.mono (Nat.le_trans B1.out.size B2.out.size))))).mono ?_
            rintro e w4 ⟨rfl, hb4⟩
            have B4 := Lib.hid hb4
            clear hb4 r0 r1 r2
            go_wp2_with fail
            go_ret
            exact ⟨rfl, H.out.below.trans ((((B1.out.trans (B2.out.mono B1.out.size)).trans (B3.out.mono (Nat.le_trans B1.out.size B2.out.size))).trans (B4.out.mono (Nat.le_trans (Nat.le_trans B1.out.size B2.out.size) B3.out.size))).mono H.out.size)⟩
          · rw [if_neg (by omega)] at hV2
            subst hV2
            have t16 : decide ((16 : Int) < (k : Int)) = false := decide_eq_false (by omega)
            go_wp2_with fail
            refine FM.out.mono ?_
            rintro e w1 ⟨t, rfl, hb1⟩
            have B1 := Lib.hid hb1
            have E1 := Lib.hid (E0.out.below hb1)
            have x0 := (hb1.cell (p := ⟨w.heap.size + 1, 0, none⟩) hz).trans y0
            have x1 := (hb1.cell (p := ⟨w.heap.size + 1, 1, none⟩) hz).trans y1
            have x2 := (hb1.cell (p := ⟨w.heap.size + 1, 2, none⟩) hz).trans y2
            have hz1 := Nat.lt_of_lt_of_le hz hb1.size
            clear hb1 y0 y1 y2
            go_wp2_with fail
            refine (awake_any w1 E1.out).mono ?_
            rintro e w2 ⟨rfl, hb2⟩
            have B2 := Lib.hid hb2
            have v0 := (hb2.cell (p := ⟨w.heap.size + 1, 0, none⟩) hz1).trans x0
            have v1 := (hb2.cell (p := ⟨w.heap.size + 1, 1, none⟩) hz1).trans x1
            have v2 := (hb2.cell (p := ⟨w.heap.size + 1, 2, none⟩) hz1).trans x2
            have hz2 := Nat.lt_of_lt_of_le hz1 hb2.size
            clear hb2 x0 x1 x2
            go_wp2_with fail
            refine (CK.out w2 (HS.out.below (B1.out.trans (B2.out.mono B1.out.size)))).mono ?_
            rintro e w3 ⟨rfl, hb3⟩
            have B3 := Lib.hid hb3
            have r0 := (hb3.cell (p := ⟨w.heap.size + 1, 0, none⟩) hz2).trans v0
            have r1 := (hb3.cell (p := ⟨w.heap.size + 1, 1, none⟩) hz2).trans v1
            have r2 := (hb3.cell (p := ⟨w.heap.size + 1, 2, none⟩) hz2).trans v2
            clear hb3 v0 v1 v2
            go_wp2_with fail
            refine (OA.out w3 (HS.out.below ((B1.out.trans (B2.out.mono B1.out.size)).trans (B3.out.mono (Nat.le_trans B1.out.size B2.out.size))))).mono ?_
            rintro e w4 ⟨rfl, hb4⟩
            have B4 := Lib.hid hb4
            clear hb4 r0 r1 r2
            go_wp2_with fail
            go_ret
            exact ⟨rfl, H.out.below.trans ((((B1.out.trans (B2.out.mono B1.out.size)).trans (B3.out.mono (Nat.le_trans B1.out.size B2.out.size))).trans (B4.out.mono (Nat.le_trans (Nat.le_trans B1.out.size B2.out.size) B3.out.size))).mono H.out.size)⟩
        · rw [if_neg (by omega)] at hV2
          subst hV2
          have t0 : decide ((0 : Int) < (j : Int)) = false := decide_eq_false (by omega)
          go_wp2_with fail
          refine FM.out.mono ?_
          rintro e w1 ⟨t, rfl, hb1⟩
          have B1 := Lib.hid hb1
          have E1 := Lib.hid (E0.out.below hb1)
          have x0 := (hb1.cell (p := ⟨w.heap.size + 1, 0, none⟩) hz).trans y0
          have x1 := (hb1.cell (p := ⟨w.heap.size + 1, 1, none⟩) hz).trans y1
          have x2 := (hb1.cell (p := ⟨w.heap.size + 1, 2, none⟩) hz).trans y2
          have hz1 := Nat.lt_of_lt_of_le hz hb1.size
          clear hb1 y0 y1 y2
          go_wp2_with fail
          refine (awake_any w1 E1.out).mono ?_
          rintro e w2 ⟨rfl, hb2⟩
          have B2 := Lib.hid hb2
          have v0 := (hb2.cell (p := ⟨w.heap.size + 1, 0, none⟩) hz1).trans x0
          have v1 := (hb2.cell (p := ⟨w.heap.size + 1, 1, none⟩) hz1).trans x1
          have v2 := (hb2.cell (p := ⟨w.heap.size + 1, 2, none⟩) hz1).trans x2
          have hz2 := Nat.lt_of_lt_of_le hz1 hb2.size
          clear hb2 x0 x1 x2
          go_wp2_with fail
          refine (CK.out w2 (HS.out.below (B1.out.trans (B2.out.mono B1.out.size)))).mono ?_
          rintro e w3 ⟨rfl, hb3⟩
          have B3 := Lib.hid hb3
          have r0 := (hb3.cell (p := ⟨w.heap.size + 1, 0, none⟩) hz2).trans v0
          have r1 := (hb3.cell (p := ⟨w.heap.size + 1, 1, none⟩) hz2).trans v1
          have r2 := (hb3.cell (p := ⟨w.heap.size + 1, 2, none⟩) hz2).trans v2
          clear hb3 v0 v1 v2
          go_wp2_with fail
          refine (OA.out w3 (HS.out.below ((B1.out.trans (B2.out.mono B1.out.size)).trans (B3.out.mono (Nat.le_trans B1.out.size B2.out.size))))).mono ?_
          rintro e w4 ⟨rfl, hb4⟩
          have B4 := Lib.hid hb4
          clear hb4 r0 r1 r2
          go_wp2_with fail
          go_ret
          exact ⟨rfl, H.out.below.trans ((((B1.out.trans (B2.out.mono B1.out.size)).trans (B3.out.mono (Nat.le_trans B1.out.size B2.out.size))).trans (B4.out.mono (Nat.le_trans (Nat.le_trans B1.out.size B2.out.size) B3.out.size))).mono H.out.size)⟩
end Go.Proofs.YtnoeiaicligmiaaDoor
