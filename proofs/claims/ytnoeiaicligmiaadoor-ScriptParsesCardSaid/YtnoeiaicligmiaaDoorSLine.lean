/- The walk of the parser's line. -/
import Derived.Test.YtnoeiaicligmiaaDoorSOp
import Derived.Test.YtnoeiaicligmiaaDoorSWords
import Derived.Lib.SplitLaws
namespace Go.Proofs.YtnoeiaicligmiaaDoor
set_option linter.unusedVariables false
set_option linter.unusedSimpArgs false
open Go Go.RowKit
/-- the row of threads where there are some -/
theorem row_some {w : World} {B size n : Nat} {e : TypeId} {v : Value} {xs : List Value} (h : w.ownsRow B e size v n xs) (hn : 0 < n) : ∃ g cap, v = .slice (some ⟨g, 0, none⟩) n cap := by
  rcases h.2 with ⟨rfl, h0⟩ | ⟨g, cap, cur, rfl, _⟩
  · omega
  · exact ⟨g, cap, rfl⟩
theorem split_last {α : Type} (l : List α) (h : l ≠ []) : ∃ a x, l = a ++ [x] := ⟨l.dropLast, l.getLast h, (List.dropLast_concat_getLast h).symm⟩
set_option maxHeartbeats 1000000 in
theorem op_any (B : Nat) (w0 w : World) (P : Nat) (st : PS) (vt vp : Value) (us : List Value) (h : ParAt B w0 w P st vt vp us) (ws : List (List UInt8)) (b off cap : Nat) (hx : ∀ x ∈ ws, x.length ≤ 1048576) (hw : WordsIn w b off ws) (hn : ws.length ≤ 1048577) (ht : st.scr.threads.length ≤ 1048576) (hto : ∀ t ∈ st.scr.threads, t.length ≤ 1048576) :
    Calls Tryd.prog 53 #[.pointer (some ⟨P, 0, none⟩), .slice (some ⟨b, off, none⟩) ws.length cap] w (LinePost B w0 P (opR st ws)) := by
  by_cases h0 : st.scr.threads = []
  · have T := Lib.hid (opR_empty (ws := ws) h0)
    have hu : us = [] := List.eq_nil_of_length_eq_zero (by rw [h.hus, h0]; rfl)
    subst hu
    obtain ⟨a1, c1, rfl⟩ := row_form h.thr
    have y1 : w.cell? ⟨P, 1, none⟩ = some (.slice a1 0 c1) := h.cell 1
    have H := Lib.hid h
    clear h h0 hx hw hto
    go_enter Tryd.func53, Tryd.ntmps53
    go_wp2_with fail
    go_ret
    exact LinePost.no T.out H.out.below
  · by_cases h5 : ws.length = 5
    · obtain ⟨ts, t, hts⟩ := split_last _ h0
      have hu : 0 < us.length := by rw [h.hus, hts]; simp
      obtain ⟨g, gc, rfl⟩ := row_some h.thr hu
      match ws, h5 with
      | [a, b', k, v, x], _ => exact op_five B w0 w P st vp us g gc h ts t hts (by rw [hts] at ht; simp at ht; omega) (hto t (by rw [hts]; simp)) a b' k v x b off cap hx hw
    · have T := Lib.hid (opR_len (st := st) h5)
      have hb5 : ((ws.length : Int) != 5) = true := by simp; omega
      have hu : 0 < us.length := by
        rw [h.hus]
        cases e : st.scr.threads with
        | nil => exact absurd e h0
        | cons a r => simp
      have hul : us.length ≤ 1048576 := by rw [h.hus]; exact ht
      obtain ⟨a1, c1, rfl⟩ := row_form h.thr
      have y1 : w.cell? ⟨P, 1, none⟩ = some (.slice a1 us.length c1) := h.cell 1
      have hl0 : (0 : Int) ≤ (us.length : Int) - 1 := by omega
      have H := Lib.hid h
      clear h h0 hx hw hto h5
      go_enter Tryd.func53, Tryd.ntmps53
      go_wp2_with fail
      go_ret
      exact LinePost.no T.out H.out.below
theorem splitB_words (l : List UInt8) : Lib.splitB ⟨#[32]⟩ 0 (Lib.countB ⟨l.toArray⟩ ⟨#[32]⟩) ⟨l.toArray⟩ = (words l).map (fun x => ⟨x.toArray⟩) := by
  have h := Lib.splitB_data ⟨#[32]⟩ 0 (Lib.countB ⟨l.toArray⟩ ⟨#[32]⟩) ⟨l.toArray⟩
  have e : Lib.splitK [32] 0 (Lib.countB ⟨l.toArray⟩ ⟨#[32]⟩) l = words l := split_words l
  rw [show (ByteArray.mk #[32]).data.toList = [32] from rfl, show (ByteArray.mk l.toArray).data.toList = l by simp, e] at h
  rw [← h, List.map_map]
  have : ((fun x : List UInt8 => ByteArray.mk x.toArray) ∘ fun x : ByteArray => x.data.toList) = id := by
    funext x
    cases x
    simp
  rw [this, List.map_id]
def wordsO (ws : List (List UInt8)) : Obj := .cells (ws.map (fun x => Value.string ⟨x.toArray⟩)).toArray 9
theorem split_any (l : List UInt8) (hl : l.length ≤ 1048576) (m : Int) (w : World) (hm : w.cell? ⟨1, 0, none⟩ = some (.int .i64 m)) :
    Calls Tryd.prog 50 #[.string ⟨l.toArray⟩, .string ⟨#[32]⟩] w fun e w' => e = .returned (.slice (some ⟨w.heap.size, 0, none⟩) (words l).length (words l).length) ∧ w' = w.alloc (wordsO (words l)) := by
  have h := Tryd.strings_Split ⟨l.toArray⟩ ⟨#[32]⟩ m w (by simp [ByteArray.size]; omega) hm (by decide)
  have hc : Lib.countB ⟨l.toArray⟩ ⟨#[32]⟩ + 1 = (words l).length := by
    have := Lib.splitB_all ⟨#[32]⟩ (by decide) 0 (Lib.countB ⟨l.toArray⟩ ⟨#[32]⟩) ⟨l.toArray⟩ rfl
    rw [splitB_words, List.length_map] at this
    exact this.symm
  rw [hc, splitB_words, List.map_map] at h
  exact h
theorem words_new (w : World) (ws : List (List UInt8)) : WordsIn (w.alloc (wordsO ws)) w.heap.size 0 ws := fun _ =>
  ⟨⟨_, (MapKept.heap_alloc w _).1⟩, fun i x hx => by
    have := blk_cell (MapKept.heap_alloc w (wordsO ws)).1 i
    rw [Nat.zero_add, this]
    simp [hx]⟩
theorem words_tail {w : World} {b : Nat} {ws : List (List UInt8)} (h : WordsIn w b 0 ws) : WordsIn w b 1 ws.tail := fun h0 => by
  have hl : 0 < ws.length := by simp at h0; omega
  obtain ⟨h1, h2⟩ := h hl
  refine ⟨h1, fun i x hx => ?_⟩
  have := h2 (i + 1) x (by simpa using hx)
  rwa [Nat.zero_add, Nat.add_comm] at this
theorem words_at {w : World} {b off : Nat} {ws : List (List UInt8)} (h : WordsIn w b off ws) (h0 : 0 < ws.length) (hx : ∀ x ∈ ws, x.length ≤ 1048576) : WordsAt w b off ws := ⟨hx, (h h0).2⟩
theorem words_pos (l : List UInt8) : 0 < (words l).length := by
  cases l with
  | nil => simp [words]
  | cons b r =>
    unfold words
    split
    · simp
    · split <;> simp
theorem takeL_done {st : PS} (hd : st.done = true) (ws : List (List UInt8)) : takeL st ws = none := by
  unfold takeL; rw [if_pos hd]
theorem takeL_thread {st : PS} (hd : st.done = false) (hm : st.masked = true) (r : List (List UInt8)) : takeL st (threadW :: r) = if (threadW :: r).length = 1 then some { st with scr := { st.scr with threads := st.scr.threads ++ [[]] } } else none := by
  unfold takeL
  rw [if_neg (by simp [hd]), if_neg (by simp [hm]), if_pos (show (threadW :: r).head? = some threadW from rfl)]
theorem takeL_picks {st : PS} (hd : st.done = false) (hm : st.masked = true) (r : List (List UInt8)) : takeL st (picksW :: r) = picksR st r := by
  unfold takeL
  rw [if_neg (by simp [hd]), if_neg (by simp [hm]), if_neg (by simp [picksW, threadW]), if_pos (show (picksW :: r).head? = some picksW from rfl)]
  rfl
theorem takeL_op {st : PS} (hd : st.done = false) (hm : st.masked = true) (x : List UInt8) (r : List (List UInt8)) (h1 : x ≠ threadW) (h2 : x ≠ picksW) : takeL st (x :: r) = opR st (x :: r) := by
  unfold takeL
  rw [if_neg (by simp [hd]), if_neg (by simp [hm]), if_neg (by simpa using h1), if_neg (by simpa using h2)]
  rfl
theorem LinePost.ret {B : Nat} {w0 : World} {P : Nat} {r : Option PS} {e : Ending} {w' : World} (h : LinePost B w0 P r e w') : ∃ b, e = .returned (.bool b) := by
  cases r with
  | none => exact ⟨_, h.1⟩
  | some st => exact ⟨_, h.1⟩
set_option maxHeartbeats 2000000 in
theorem line_any (B : Nat) (w0 w : World) (P : Nat) (st : PS) (vt vp : Value) (us : List Value) (h : ParAt B w0 w P st vt vp us) (m : Int) (hm : w.cell? ⟨1, 0, none⟩ = some (.int .i64 m)) (l : List UInt8) (hl : l.length ≤ 1048576) (ht : st.scr.threads.length ≤ 1048575) (hto : ∀ t ∈ st.scr.threads, t.length ≤ 1048576) :
    Calls Tryd.prog 37 #[.pointer (some ⟨P, 0, none⟩), .string ⟨l.toArray⟩] w (LinePost B w0 P (takeL st (words l))) := by
  have S := Lib.hid (split_any l hl m w hm)
  have hwl := words_len l
  have hwp := words_pos l
  generalize words l = ws at S hwl hwp ⊢
  have hwn : ws.length ≤ 1048577 := by omega
  have hwx : ∀ x ∈ ws, x.length ≤ 1048576 := fun x hx => by have := hwl.2 x hx; omega
  have HX := Lib.hid hwx
  have HTO := Lib.hid hto
  have H := Lib.hid h
  have hPz := h.lt
  clear hwl hwx hto h hm hl
  obtain ⟨scr, mk, dn⟩ := st
  cases dn with
  | true =>
    have T := Lib.hid (takeL_done (st := ⟨scr, mk, true⟩) rfl ws)
    have y4 : w.cell? ⟨P, 4, none⟩ = some (.bool true) := H.out.cell 4
    go_enter Tryd.func37, Tryd.ntmps37
    go_wp2_with fail
    go_ret
    exact LinePost.no T.out H.out.below
  | false =>
    have y4 : w.cell? ⟨P, 4, none⟩ = some (.bool false) := H.out.cell 4
    have H1 := Lib.hid (H.out.above ((Below.refl _ w).alloc (Nat.le_refl _) (wordsO ws)))
    have W1 := Lib.hid (words_new w ws)
    generalize hW : w.alloc (wordsO ws) = w1 at S H1 W1
    clear hW
    have y3 : w1.cell? ⟨P, 3, none⟩ = some (.bool mk) := H1.out.cell 3
    cases mk with
    | false =>
      have M := Lib.hid (mask_any B w0 w1 P ⟨scr, false, false⟩ vt vp us H1.out rfl rfl ws w.heap.size 0 ws.length (words_at W1.out hwp HX.out) hwn)
      go_enter Tryd.func37, Tryd.ntmps37
      go_wp2_with fail
      refine S.out.mono ?_
      rintro e w2 ⟨rfl, rfl⟩
      go_wp2_with fail
      refine M.out.mono ?_
      intro e w2 hpost
      obtain ⟨bb, rfl⟩ := hpost.ret
      have HPO := Lib.hid hpost
      clear hpost
      go_wp2_with fail
      go_ret
      exact HPO.out
    | true =>
      obtain ⟨x, r, rfl⟩ : ∃ x r, ws = x :: r := by
        cases ws with
        | nil => simp at hwp
        | cons x r => exact ⟨x, r, rfl⟩
      have c0 : w1.cell? ⟨w.heap.size, 0, none⟩ = some (.string ⟨x.toArray⟩) := (W1.out (by simp)).2 0 x rfl
      obtain ⟨k, hk⟩ : ∃ k, r.length = k := ⟨_, rfl⟩
      have hkl : (x :: r).length = k + 1 := by simp [hk]
      have hk0 : k ≤ 1048576 := by omega
      rw [hkl] at S
      have HK := Lib.hid hk
      have HKL := Lib.hid hkl
      clear hk hkl hwp hwn
      by_cases hx1 : x = threadW
      · subst hx1
        have T := Lib.hid (takeL_thread (st := ⟨scr, true, false⟩) rfl rfl r)
        rw [HKL.out] at T
        have hul : us.length ≤ 1048575 := by rw [H1.out.hus]; exact ht
        obtain ⟨a1, c1, hvt⟩ := row_form H1.out.thr
        subst hvt
        have y1 : w1.cell? ⟨P, 1, none⟩ = some (.slice a1 us.length c1) := H1.out.cell 1
        have f1 : w1.frozen? ⟨P, 1, none⟩ = false := blk_frozen H1.out.par 1
        have hz1 := H1.out.lt
        by_cases hk1 : k = 0
        · subst hk1
          rw [if_pos rfl] at T
          go_enter Tryd.func37, Tryd.ntmps37
          go_wp2_with fail
          refine S.out.mono ?_
          rintro e w2 ⟨rfl, rfl⟩
          go_wp2_with (at_builtin; (refine wpList_one_new 30 49 Tryd.underlying30 _ 24 ops_info rfl rfl _ _ rfl B _ _ _ _ rfl H1.out.thr (.slice none 0 0) rfl rfl H1.out.size ?hm ?hlen ?_); (case hm => (unfold maxLen; omega)); (case hlen => omega); intro a3 c3 w3 ho3 hg3; (have O3 := Lib.hid ho3); (have G3 := Lib.hid hg3); (have y5 : w3.cell? ⟨P, 1, none⟩ = some (.slice a1 us.length c1) := (World.cell?_of_block (grown_block hg3 hz1 (row_ne H1.out.thr H1.out.par (by decide)))).trans y1); (have f5 : w3.frozen? ⟨P, 1, none⟩ = false := (World.frozen?_of_block (grown_block hg3 hz1 (row_ne H1.out.thr H1.out.par (by decide)))).trans f1); clear ho3 hg3)
          go_ret
          exact LinePost.yes T.out ⟨_, _, _, H1.out.thread _ G3.out O3.out⟩
        · have hb1 : (((k : Int) + 1) == 1) = false := by simp; omega
          rw [if_neg (by omega)] at T
          go_enter Tryd.func37, Tryd.ntmps37
          go_wp2_with fail
          refine S.out.mono ?_
          rintro e w2 ⟨rfl, rfl⟩
          go_wp2_with (at_builtin; (refine wpList_one_new 30 49 Tryd.underlying30 _ 24 ops_info rfl rfl _ _ rfl B _ _ _ _ rfl H1.out.thr (.slice none 0 0) rfl rfl H1.out.size ?hm ?hlen ?_); (case hm => (unfold maxLen; omega)); (case hlen => omega); intro a3 c3 w3 ho3 hg3; (have O3 := Lib.hid ho3); (have G3 := Lib.hid hg3); (have y5 : w3.cell? ⟨P, 1, none⟩ = some (.slice a1 us.length c1) := (World.cell?_of_block (grown_block hg3 hz1 (row_ne H1.out.thr H1.out.par (by decide)))).trans y1); (have f5 : w3.frozen? ⟨P, 1, none⟩ = false := (World.frozen?_of_block (grown_block hg3 hz1 (row_ne H1.out.thr H1.out.par (by decide)))).trans f1); clear ho3 hg3)
          go_ret
          exact LinePost.no T.out (H1.out.thread _ G3.out O3.out).below
      · by_cases hx2 : x = picksW
        · subst hx2
          have T := Lib.hid (takeL_picks (st := ⟨scr, true, false⟩) rfl rfl r)
          rw [T.out]
          have PK := Lib.hid (fun A cap hA => picks_any B w0 w1 P ⟨scr, true, false⟩ vt vp us H1.out r A w.heap.size 1 cap hA (fun y hy => HX.out y (by simp [hy])) (words_tail W1.out) (by rw [HK.out]; omega))
          rw [HK.out] at PK
          clear T hx1
          by_cases hk1 : k = 0
          · subst hk1
            go_enter Tryd.func37, Tryd.ntmps37
            go_wp2_with fail
            refine S.out.mono ?_
            rintro e w2 ⟨rfl, rfl⟩
            go_wp2_with fail
            refine (PK.out _ _ (fun h => absurd h (by omega))).mono ?_
            intro e w2 hpost
            obtain ⟨bb, rfl⟩ := hpost.ret
            have HPO := Lib.hid hpost
            clear hpost
            go_wp2_with fail
            go_ret
            exact HPO.out
          · have hk2 : 1 ≤ k := by omega
            go_enter Tryd.func37, Tryd.ntmps37
            go_wp2_with fail
            refine S.out.mono ?_
            rintro e w2 ⟨rfl, rfl⟩
            go_wp2_with fail
            refine (PK.out _ _ (fun _ => rfl)).mono ?_
            intro e w2 hpost
            obtain ⟨bb, rfl⟩ := hpost.ret
            have HPO := Lib.hid hpost
            clear hpost
            go_wp2_with fail
            go_ret
            exact HPO.out
        · have T := Lib.hid (takeL_op (st := ⟨scr, true, false⟩) rfl rfl x r hx1 hx2)
          have s1 : (x == [116, 104, 114, 101, 97, 100]) = false := by simpa [threadW] using hx1
          have s2 : (x == [112, 105, 99, 107, 115]) = false := by simpa [picksW] using hx2
          rw [T.out]
          have OA := Lib.hid (op_any B w0 w1 P ⟨scr, true, false⟩ vt vp us H1.out (x :: r) w.heap.size 0 (k + 1) HX.out W1.out (by rw [HKL.out]; omega) (Nat.le_trans ht (by omega)) HTO.out)
          rw [HKL.out] at OA
          clear T hx1 hx2
          go_enter Tryd.func37, Tryd.ntmps37
          go_wp2_with fail
          refine S.out.mono ?_
          rintro e w2 ⟨rfl, rfl⟩
          go_wp2_with fail
          refine OA.out.mono ?_
          intro e w2 hpost
          obtain ⟨bb, rfl⟩ := hpost.ret
          have HPO := Lib.hid hpost
          clear hpost
          go_wp2_with fail
          go_ret
          exact HPO.out
end Go.Proofs.YtnoeiaicligmiaaDoor
