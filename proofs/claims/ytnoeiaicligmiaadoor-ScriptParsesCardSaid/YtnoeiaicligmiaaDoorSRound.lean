/- Parsing the text of a script gives the script; formatting a parsed script gives the text. No program in sight. -/
import Derived.Test.YtnoeiaicligmiaaDoorSNum2
namespace Go.Proofs.YtnoeiaicligmiaaDoor
set_option linter.unusedVariables false
set_option linter.unusedSimpArgs false
open Go
structure OpOk (o : OpD) : Prop where
  k0 : -9223372036854775808 ≤ o.kind
  k1 : o.kind ≤ 9223372036854775807
  h0 : -9223372036854775808 ≤ o.handle
  h1 : o.handle ≤ 9223372036854775807
  v0 : 0 ≤ o.value
  v1 : o.value ≤ 18446744073709551615
  e0 : 0 ≤ o.expect
  e1 : o.expect ≤ 18446744073709551615
structure ScrOk (s : ScrD) : Prop where
  m0 : 0 ≤ s.mask
  m1 : s.mask ≤ 18446744073709551615
  ops : ∀ t ∈ s.threads, ∀ o ∈ t, OpOk o
  picks : ∀ p ∈ s.picks, -9223372036854775808 ≤ p ∧ p ≤ 9223372036854775807
def lineB (o : OpD) : List UInt8 := Lib.itoa o.kind ++ 32 :: (Lib.itoa o.handle ++ 32 :: (keyT o.key.data.toList ++ 32 :: (natT o.value ++ 32 :: natT o.expect)))
theorem lineT_eq (o : OpD) : lineT o = lineB o ++ [10] := by simp [lineT, lineB]
/-- bytes of words: no space, no line feed -/
def Solid (l : List UInt8) : Prop := ∀ b ∈ l, b ≠ 32 ∧ b ≠ 10
theorem Solid.sp {l : List UInt8} (h : Solid l) : ∀ b ∈ l, b ≠ 32 := fun b hb => (h b hb).1
theorem Solid.nl {l : List UInt8} (h : Solid l) : ∀ b ∈ l, b ≠ 10 := fun b hb => (h b hb).2
theorem solid_dig {b : UInt8} (h : 33 ≤ b.toNat) : b ≠ 32 ∧ b ≠ 10 :=
  ⟨fun e => by subst e; exact absurd h (by decide), fun e => by subst e; exact absurd h (by decide)⟩
theorem solid_dec (n : Nat) : Solid (Lib.decDigits n) := fun b hb => solid_dig (by have := dec_digs n b hb; omega)
theorem solid_nat (v : Int) : Solid (natT v) := solid_dec _
theorem solid_itoa (i : Int) : Solid (Lib.itoa i) := by
  unfold Lib.itoa
  split
  · intro b hb
    rcases List.mem_cons.1 hb with rfl | hb
    · decide
    · exact solid_dec _ b hb
  · exact solid_dec _
theorem solid_hex (n : Nat) (h : n < 16) : hexD n ≠ 32 ∧ hexD n ≠ 10 := by
  have : ∀ k : Fin 16, hexD k.val ≠ 32 ∧ hexD k.val ≠ 10 := by decide
  exact this ⟨n, h⟩
theorem solid_key (k : List UInt8) : Solid (keyT k) := by
  intro b hb
  rcases List.mem_cons.1 hb with rfl | hb
  · decide
  · obtain ⟨c, _, hc⟩ := List.mem_flatMap.1 hb
    have hl := UInt8.toNat_lt c
    simp only [List.mem_cons, List.not_mem_nil, or_false] at hc
    rcases hc with rfl | rfl
    · exact solid_hex _ (by omega)
    · exact solid_hex _ (by omega)
theorem words_line (o : OpD) : words (lineB o) = [Lib.itoa o.kind, Lib.itoa o.handle, keyT o.key.data.toList, natT o.value, natT o.expect] := by
  unfold lineB
  rw [words_cons _ _ (solid_itoa _).sp, words_cons _ _ (solid_itoa _).sp, words_cons _ _ (solid_key _).sp, words_cons _ _ (solid_nat _).sp, words_one _ (solid_nat _).sp]
theorem readOp_line (o : OpD) (h : OpOk o) : readOp (words (lineB o)) = some o := by
  have hv := h.v0
  have he := h.e0
  rw [words_line]
  unfold readOp
  simp only
  rw [readInt_itoa _ h.k0 h.k1, readInt_itoa _ h.h0 h.h1, readKey_keyT, natT, natT, readNat_dec _ (by have := h.v1; omega), readNat_dec _ (by have := h.e1; omega)]
  simp only [Option.some.injEq]
  obtain ⟨k, hd, ky, v, e⟩ := o
  simp only at hv he ⊢
  congr 1
  · omega
  · omega
theorem nonl_line (o : OpD) : ∀ b ∈ lineB o, b ≠ 10 := by
  intro b hb
  unfold lineB at hb
  simp only [List.mem_append, List.mem_cons] at hb
  rcases hb with hb | rfl | hb | rfl | hb | rfl | hb | rfl | hb
  · exact (solid_itoa _ b hb).2
  · decide
  · exact (solid_itoa _ b hb).2
  · decide
  · exact (solid_key _ b hb).2
  · decide
  · exact (solid_dec _ b hb).2
  · decide
  · exact (solid_dec _ b hb).2
def picksL (ps : List Int) : List UInt8 := picksW ++ ps.flatMap (fun p => 32 :: Lib.itoa p)
def maskL (m : Int) : List UInt8 := maskW ++ 32 :: natT m
def linesT (ts : List (List OpD)) : List (List UInt8) := ts.flatMap (fun t => threadW :: t.map lineB)
def linesS (s : ScrD) : List (List UInt8) := maskL s.mask :: (linesT s.threads ++ [picksL s.picks])
def endL (ls : List (List UInt8)) : List UInt8 := ls.flatMap (fun x => x ++ [10])
theorem endL_append (a b : List (List UInt8)) : endL (a ++ b) = endL a ++ endL b := by simp [endL]
theorem endL_lines (t : List OpD) : endL (t.map lineB) = t.flatMap lineT := by
  induction t with
  | nil => rfl
  | cons o r ih =>
    simp only [endL, List.map_cons, List.flatMap_cons] at ih ⊢
    rw [ih, lineT_eq]
theorem endL_linesT (ts : List (List OpD)) : endL (linesT ts) = ts.flatMap threadT := by
  induction ts with
  | nil => rfl
  | cons t r ih =>
    have e : linesT (t :: r) = (threadW :: t.map lineB) ++ linesT r := by simp [linesT]
    rw [e, endL_append, ih, List.flatMap_cons]
    congr 1
    have := endL_lines t
    simp only [endL, List.flatMap_cons] at this ⊢
    rw [this]
    simp [threadT]
theorem textS_lines (s : ScrD) : textS s = endL (linesS s) := by
  unfold linesS
  have e : endL (maskL s.mask :: (linesT s.threads ++ [picksL s.picks])) = (maskL s.mask ++ [10]) ++ (endL (linesT s.threads) ++ (picksL s.picks ++ [10])) := by simp [endL]
  rw [e, endL_linesT]
  simp [textS, maskL, picksL]
theorem linesOf_endL (ls : List (List UInt8)) (h : ∀ l ∈ ls, ∀ b ∈ l, b ≠ 10) : linesOf (endL ls) = (ls, []) := by
  induction ls with
  | nil => rfl
  | cons l r ih =>
    have e : endL (l :: r) = l ++ 10 :: endL r := by simp [endL]
    rw [e, linesOf_line l _ (h l (.head _)), ih (fun x hx => h x (.tail _ hx))]
theorem nonl_linesS (s : ScrD) : ∀ l ∈ linesS s, ∀ b ∈ l, b ≠ 10 := by
  intro l hl b hb
  rcases List.mem_cons.1 hl with rfl | hl
  · simp only [maskL, List.mem_append, List.mem_cons] at hb
    rcases hb with hb | rfl | hb
    · revert b; decide
    · decide
    · exact (solid_dec _ b hb).2
  · rcases List.mem_append.1 hl with hl | hl
    · obtain ⟨t, _, ht⟩ := List.mem_flatMap.1 hl
      rcases List.mem_cons.1 ht with rfl | ht
      · revert b; decide
      · obtain ⟨o, _, rfl⟩ := List.mem_map.1 ht
        exact nonl_line o b hb
    · simp only [List.mem_singleton] at hl
      subst hl
      simp only [picksL, List.mem_append, List.mem_flatMap, List.mem_cons] at hb
      rcases hb with hb | ⟨p, _, rfl | hb⟩
      · revert b; decide
      · decide
      · exact (solid_itoa _ b hb).2
/-! ### reading the lines -/
theorem takeAll_append (a b : List (List UInt8)) (st st' : PS) (n : Nat) (h : takeAll st a n = .inl st') : takeAll st (a ++ b) n = takeAll st' b (n + a.length) := by
  induction a generalizing st n with
  | nil => simp only [takeAll, Sum.inl.injEq] at h; subst h; rfl
  | cons l r ih =>
    rw [List.cons_append, takeAll]
    rw [takeAll] at h
    cases ht : takeL st (words l) with
    | none => rw [ht] at h; simp at h
    | some s1 =>
      rw [ht] at h
      simp only at h ⊢
      rw [ih s1 (n + 1) h]
      congr 1
      simp; omega
theorem addOp_last (ts : List (List OpD)) (t : List OpD) (o : OpD) : addOp (ts ++ [t]) o = ts ++ [t ++ [o]] := by
  induction ts with
  | nil => rfl
  | cons x r ih =>
    rw [List.cons_append]
    cases hr : r ++ [t] with
    | nil => simp at hr
    | cons y ys =>
      rw [hr] at ih
      rw [addOp, ih]
      · rfl
      · simp
theorem itoa_first (i : Int) : ∃ b t, Lib.itoa i = b :: t ∧ b.toNat ≤ 57 := by
  unfold Lib.itoa
  split
  · exact ⟨45, _, rfl, by decide⟩
  · obtain ⟨b, t, h, _, h1⟩ := dec_first i.toNat
    exact ⟨b, t, h, h1⟩
theorem itoa_word (i : Int) : Lib.itoa i ≠ threadW ∧ Lib.itoa i ≠ picksW := by
  obtain ⟨b, t, h, hb⟩ := itoa_first i
  rw [h]
  constructor
  · intro e
    simp only [threadW, List.cons.injEq] at e
    have := congrArg UInt8.toNat e.1
    have : (116 : UInt8).toNat = 116 := rfl
    omega
  · intro e
    simp only [picksW, List.cons.injEq] at e
    have := congrArg UInt8.toNat e.1
    have : (112 : UInt8).toNat = 112 := rfl
    omega
theorem take_op (m : Int) (ts : List (List OpD)) (t : List OpD) (p : List Int) (o : OpD) (h : OpOk o) :
    takeL ⟨⟨m, ts ++ [t], p⟩, true, false⟩ (words (lineB o)) = some ⟨⟨m, ts ++ [t ++ [o]], p⟩, true, false⟩ := by
  have hr := readOp_line o h
  have hw := words_line o
  have hi := itoa_word o.kind
  unfold takeL
  rw [if_neg (by simp), if_neg (by simp)]
  have h1 : (words (lineB o)).head? = some (Lib.itoa o.kind) := by rw [hw]; rfl
  rw [h1, if_neg (by simpa using hi.1), if_neg (by simpa using hi.2), hr]
  simp only
  rw [if_neg (by simp), addOp_last]
theorem take_ops (m : Int) (ts : List (List OpD)) (p : List Int) (l t : List OpD) (h : ∀ o ∈ l, OpOk o) (n : Nat) :
    takeAll ⟨⟨m, ts ++ [t], p⟩, true, false⟩ (l.map lineB) n = .inl ⟨⟨m, ts ++ [t ++ l], p⟩, true, false⟩ := by
  induction l generalizing t n with
  | nil => simp [takeAll]
  | cons o r ih =>
    rw [List.map_cons, takeAll, take_op m ts t p o (h o (.head _))]
    simp only
    rw [ih (t ++ [o]) (fun x hx => h x (.tail _ hx)) (n + 1)]
    simp
theorem take_threads (m : Int) (ts l : List (List OpD)) (p : List Int) (h : ∀ t ∈ l, ∀ o ∈ t, OpOk o) (n : Nat) :
    takeAll ⟨⟨m, ts, p⟩, true, false⟩ (linesT l) n = .inl ⟨⟨m, ts ++ l, p⟩, true, false⟩ := by
  induction l generalizing ts n with
  | nil => simp [linesT, takeAll]
  | cons t r ih =>
    have e : linesT (t :: r) = threadW :: (t.map lineB ++ linesT r) := by simp [linesT]
    have ht : takeL ⟨⟨m, ts, p⟩, true, false⟩ (words threadW) = some ⟨⟨m, ts ++ [[]], p⟩, true, false⟩ := by
      have hw : words threadW = [threadW] := by decide
      rw [hw]
      unfold takeL
      rw [if_neg (by simp), if_neg (by simp), if_pos (by rfl)]
      rfl
    rw [e, takeAll, ht]
    simp only
    rw [takeAll_append _ _ _ _ _ (take_ops m ts p t [] (h t (.head _)) (n + 1)), List.nil_append, ih (ts ++ [t]) (fun x hx => h x (.tail _ hx))]
    simp
theorem words_picks (ps : List Int) : words (picksL ps) = picksW :: ps.map Lib.itoa := by
  have hp : ∀ b ∈ picksW, b ≠ 32 := by decide
  have hw : ∀ (a : List UInt8), (∀ b ∈ a, b ≠ 32) → words (a ++ ps.flatMap (fun p => 32 :: Lib.itoa p)) = a :: ps.map Lib.itoa := by
    induction ps with
    | nil => intro a ha; simp only [List.flatMap_nil, List.append_nil, List.map_nil]; exact words_one a ha
    | cons p r ih =>
      intro a ha
      simp only [List.flatMap_cons, List.cons_append, List.map_cons]
      rw [words_cons a _ ha, ih (Lib.itoa p) (solid_itoa p).sp]
  exact hw picksW hp
theorem readInts_map (ps : List Int) (h : ∀ p ∈ ps, -9223372036854775808 ≤ p ∧ p ≤ 9223372036854775807) : readInts (ps.map Lib.itoa) = some ps := by
  induction ps with
  | nil => rfl
  | cons p r ih =>
    rw [List.map_cons, readInts, readInt_itoa p (h p (.head _)).1 (h p (.head _)).2, ih (fun x hx => h x (.tail _ hx))]
theorem takeAll_text (s : ScrD) (h : ScrOk s) : takeAll ⟨ScrD.nil, false, false⟩ (linesS s) 0 = .inl ⟨s, true, true⟩ := by
  have hm0 := h.m0
  have hm1 := h.m1
  have hw : words (maskL s.mask) = [maskW, natT s.mask] := by
    unfold maskL
    rw [words_cons _ _ (by decide), words_one _ (solid_nat _).sp]
  have hmk : takeL ⟨ScrD.nil, false, false⟩ (words (maskL s.mask)) = some ⟨⟨s.mask, [], []⟩, true, false⟩ := by
    rw [hw]
    unfold takeL
    rw [if_neg (by simp), if_pos (by simp)]
    simp only [if_true]
    rw [natT, readNat_dec _ (by omega)]
    simp only [ScrD.nil, Option.some.injEq, PS.mk.injEq, ScrD.mk.injEq, and_self, and_true]
    omega
  have hpk : takeL ⟨⟨s.mask, [] ++ s.threads, []⟩, true, false⟩ (words (picksL s.picks)) = some ⟨⟨s.mask, s.threads, s.picks⟩, true, true⟩ := by
    rw [words_picks]
    unfold takeL
    rw [if_neg (by simp), if_neg (by simp), if_neg (by simp [threadW, picksW]), if_pos (by rfl)]
    simp only [List.tail_cons]
    rw [readInts_map _ h.picks]
    simp
  unfold linesS
  rw [takeAll, hmk]
  simp only
  rw [takeAll_append _ _ _ _ _ (take_threads s.mask [] s.threads [] h.ops (0 + 1)), takeAll, hpk]
  simp only [takeAll]
theorem parse_text (s : ScrD) (h : ScrOk s) (hc : checkS s = 0) (hl : (textS s).length ≤ maxText) : parseS (textS s) = (s, 0, 0) := by
  unfold parseS
  rw [if_neg (by omega), textS_lines, linesOf_endL _ (nonl_linesS s), takeAll_text s h]
  simp only
  rw [if_neg (by simp), if_neg (by simp [hc])]
/-! ### and back -/
theorem joinW_cons (a : List UInt8) (r : List (List UInt8)) : joinW (a :: r) = a ++ r.flatMap (fun w => 32 :: w) := by
  induction r generalizing a with
  | nil => simp [joinW]
  | cons b t ih =>
    rw [joinW, ih b]
    · simp
    · simp
def rendP (st : PS) : List UInt8 :=
  (if st.masked then maskL st.scr.mask ++ [10] else []) ++ (st.scr.threads.flatMap threadT ++ (if st.done then picksL st.scr.picks ++ [10] else []))
structure PSInv (st : PS) : Prop where
  a : st.masked = false → st.scr.threads = [] ∧ st.done = false
  ok : ScrOk st.scr
theorem readInts_inv {ws : List (List UInt8)} {l : List Int} (h : readInts ws = some l) : ws = l.map Lib.itoa ∧ ∀ p ∈ l, -9223372036854775808 ≤ p ∧ p ≤ 9223372036854775807 := by
  induction ws generalizing l with
  | nil => simp only [readInts, Option.some.injEq] at h; subst h; simp
  | cons w r ih =>
    rw [readInts] at h
    cases hw : readInt w with
    | none => rw [hw] at h; simp at h
    | some x =>
      cases hr : readInts r with
      | none => rw [hw, hr] at h; simp at h
      | some y =>
        rw [hw, hr] at h
        simp only [Option.some.injEq] at h
        subst h
        obtain ⟨i1, i2⟩ := ih hr
        obtain ⟨j1, j2, j3⟩ := readInt_inv hw
        refine ⟨by rw [List.map_cons, j1, ← i1], fun p hp => ?_⟩
        rcases List.mem_cons.1 hp with rfl | hp
        · exact ⟨j2, j3⟩
        · exact i2 p hp
theorem readOp_inv {ws : List (List UInt8)} {o : OpD} (h : readOp ws = some o) : ws = [Lib.itoa o.kind, Lib.itoa o.handle, keyT o.key.data.toList, natT o.value, natT o.expect] ∧ OpOk o := by
  unfold readOp at h
  split at h
  · rename_i a b k v x
    cases ha : readInt a with
    | none => rw [ha] at h; simp at h
    | some a' =>
      cases hb : readInt b with
      | none => rw [ha, hb] at h; simp at h
      | some b' =>
        cases hk : readKey k with
        | none => rw [ha, hb, hk] at h; simp at h
        | some k' =>
          cases hv : readNat v with
          | none => rw [ha, hb, hk, hv] at h; simp at h
          | some v' =>
            cases hx : readNat x with
            | none => rw [ha, hb, hk, hv, hx] at h; simp at h
            | some x' =>
              rw [ha, hb, hk, hv, hx] at h
              simp only [Option.some.injEq] at h
              subst h
              obtain ⟨a1, a2, a3⟩ := readInt_inv ha
              obtain ⟨b1, b2, b3⟩ := readInt_inv hb
              obtain ⟨v1, v2⟩ := readNat_inv hv
              obtain ⟨x1, x2⟩ := readNat_inv hx
              have k1 := readKey_inv hk
              refine ⟨?_, ⟨a2, a3, b2, b3, by simp only; omega, by simp only; omega, by simp only; omega, by simp only; omega⟩⟩
              simp only [natT]
              rw [a1, b1, show ((v' : Int)).toNat = v' by omega, show ((x' : Int)).toNat = x' by omega, v1, x1, k1]
  · simp at h
theorem flat_addOp (ts : List (List OpD)) (o : OpD) (h : ts ≠ []) : (addOp ts o).flatMap threadT = ts.flatMap threadT ++ lineT o := by
  have e := List.dropLast_concat_getLast h
  generalize ts.getLast h = t at e
  generalize ts.dropLast = d at e
  subst e
  rw [addOp_last]
  simp [threadT]
theorem mem_addOp (ts : List (List OpD)) (o : OpD) (h : ts ≠ []) (hts : ∀ t ∈ ts, ∀ x ∈ t, OpOk x) (ho : OpOk o) : ∀ t ∈ addOp ts o, ∀ x ∈ t, OpOk x := by
  have e := List.dropLast_concat_getLast h
  generalize ts.getLast h = t at e
  generalize ts.dropLast = d at e
  subst e
  rw [addOp_last]
  intro t' ht' x hx
  rcases List.mem_append.1 ht' with ht' | ht'
  · exact hts t' (List.mem_append_left _ ht') x hx
  · simp only [List.mem_singleton] at ht'
    subst ht'
    rcases List.mem_append.1 hx with hx | hx
    · exact hts t (List.mem_append_right _ (by simp)) x hx
    · simp only [List.mem_singleton] at hx
      subst hx
      exact ho
theorem take_rend {st st' : PS} {l : List UInt8} (hi : PSInv st) (h : takeL st (words l) = some st') : rendP st' = rendP st ++ (l ++ [10]) ∧ PSInv st' := by
  have hj := joinW_words l
  unfold takeL at h
  split at h
  · simp at h
  rename_i hd
  have hd' : st.done = false := by simpa using hd
  split at h
  · rename_i hm
    have hm' : st.masked = false := by simpa using hm
    obtain ⟨i1, i2⟩ := hi.a hm'
    split at h
    · rename_i a b hw
      split at h
      · rename_i ha
        cases hv : readNat b with
        | none => rw [hv] at h; simp at h
        | some v =>
          rw [hv] at h
          simp only [Option.some.injEq] at h
          subst h
          obtain ⟨v1, v2⟩ := readNat_inv hv
          rw [hw, ha] at hj
          refine ⟨?_, ⟨by simp, ⟨by simp only; omega, by simp only; omega, hi.ok.ops, hi.ok.picks⟩⟩⟩
          simp only [rendP, hm', hd', i1, if_true, Bool.false_eq_true, if_false, List.flatMap_nil, List.nil_append, List.append_nil]
          rw [← hj]
          simp only [joinW, maskL, natT]
          rw [show ((v : Int)).toNat = v by omega, v1]
      · simp at h
    · simp at h
  rename_i hm
  have hm' : st.masked = true := by simpa using hm
  split at h
  · rename_i ht
    split at h
    · rename_i h1
      simp only [Option.some.injEq] at h
      subst h
      have hw : words l = [threadW] := by
        cases hq : words l with
        | nil => rw [hq] at ht; simp at ht
        | cons x xs =>
          rw [hq] at ht h1
          cases xs with
          | nil => simp only [List.head?_cons, Option.some.injEq] at ht; rw [ht]
          | cons _ _ => simp at h1
      rw [hw] at hj
      simp only [joinW] at hj
      refine ⟨?_, ⟨by simp [hm'], ⟨hi.ok.m0, hi.ok.m1, fun t ht' => ?_, hi.ok.picks⟩⟩⟩
      · simp only [rendP, hm', hd', if_true, Bool.false_eq_true, if_false, List.append_nil]
        rw [← hj]
        simp [threadT]
      · rcases List.mem_append.1 ht' with ht' | ht'
        · exact hi.ok.ops t ht'
        · simp only [List.mem_singleton] at ht'
          subst ht'
          simp
    · simp at h
  split at h
  · rename_i _ hp
    cases hr : readInts (words l).tail with
    | none => rw [hr] at h; simp at h
    | some ps =>
      rw [hr] at h
      simp only [Option.some.injEq] at h
      subst h
      obtain ⟨p1, p2⟩ := readInts_inv hr
      have hw : words l = picksW :: ps.map Lib.itoa := by
        cases hq : words l with
        | nil => rw [hq] at hp; simp at hp
        | cons x xs =>
          rw [hq] at hp p1
          simp only [List.head?_cons, Option.some.injEq, List.tail_cons] at hp p1
          rw [hp, p1]
      rw [hw, joinW_cons, List.flatMap_map] at hj
      refine ⟨?_, ⟨by simp [hm'], ⟨hi.ok.m0, hi.ok.m1, hi.ok.ops, p2⟩⟩⟩
      simp only [rendP, hm', hd', if_true, Bool.false_eq_true, if_false, List.append_nil, picksL]
      rw [← hj]
      simp
  · cases hr : readOp (words l) with
    | none => rw [hr] at h; simp at h
    | some o =>
      rw [hr] at h
      simp only at h
      split at h
      · simp at h
      · rename_i hne
        simp only [Option.some.injEq] at h
        subst h
        obtain ⟨o1, o2⟩ := readOp_inv hr
        rw [o1] at hj
        have hl : l = lineB o := by
          rw [← hj]
          simp [joinW, lineB]
        refine ⟨?_, ⟨by simp [hm'], ⟨hi.ok.m0, hi.ok.m1, mem_addOp _ o hne hi.ok.ops o2, hi.ok.picks⟩⟩⟩
        simp only [rendP, hm', hd', if_true, Bool.false_eq_true, if_false, List.append_nil]
        rw [flat_addOp _ o hne, hl, ← lineT_eq]
        simp
theorem takeAll_rend {ls : List (List UInt8)} {st st' : PS} {n : Nat} (hi : PSInv st) (h : takeAll st ls n = .inl st') : rendP st' = rendP st ++ endL ls ∧ PSInv st' := by
  induction ls generalizing st n with
  | nil =>
    simp only [takeAll, Sum.inl.injEq] at h
    subst h
    exact ⟨by simp [endL], hi⟩
  | cons l r ih =>
    rw [takeAll] at h
    cases ht : takeL st (words l) with
    | none => rw [ht] at h; simp at h
    | some s1 =>
      rw [ht] at h
      obtain ⟨r1, i1⟩ := take_rend hi ht
      obtain ⟨r2, i2⟩ := ih i1 h
      refine ⟨?_, i2⟩
      rw [r2, r1]
      simp [endL]
theorem text_parse {t : List UInt8} {p : ScrD} {n : Int} (h : parseS t = (p, n, 0)) : formatS p = (t, 0) ∧ ScrOk p := by
  unfold parseS at h
  split at h
  · simp at h
  rename_i hl
  have h0 : PSInv ⟨ScrD.nil, false, false⟩ := ⟨fun _ => ⟨rfl, rfl⟩, ⟨by simp [ScrD.nil], by simp [ScrD.nil], by simp [ScrD.nil], by simp [ScrD.nil]⟩⟩
  split at h
  · simp at h
  rename_i st hst
  obtain ⟨r1, i1⟩ := takeAll_rend h0 hst
  split at h
  · simp at h
  rename_i hc
  have c1 : (linesOf t).2 = [] := Decidable.byContradiction fun hx => hc (Or.inl hx)
  have c2 : st.done = true := by
    cases hx : st.done with
    | true => rfl
    | false => exact absurd (Or.inr hx) hc
  split at h
  · simp at h
  rename_i hk
  simp only [Prod.mk.injEq] at h
  obtain ⟨rfl, _, _⟩ := h
  have hd : st.done = true := c2
  have hm : st.masked = true := by
    cases hm : st.masked with
    | true => rfl
    | false => have := (i1.a hm).2; rw [hd] at this; simp at this
  have hj := lines_join t
  rw [c1, List.append_nil] at hj
  have ht : textS st.scr = t := by
    rw [← hj]
    show _ = endL (linesOf t).1
    have e : rendP ⟨ScrD.nil, false, false⟩ = [] := by simp [rendP, ScrD.nil]
    rw [e, List.nil_append] at r1
    rw [← r1]
    simp [rendP, hd, hm, textS, maskL, picksL]
  refine ⟨?_, i1.ok⟩
  unfold formatS
  have hk' : checkS st.scr = 0 := by simpa using hk
  rw [if_neg (by simp [hk']), ht, if_neg (by omega)]
end Go.Proofs.YtnoeiaicligmiaaDoor
