/- The walks of package linz' exists and numbered. The walks of package linz' numbered, refused, justifies. The walks of package linz' refused, justifies. -/
import Derived.Test.YtbmoehndnbbhcaaGreatDoorMModA
import Derived.Deep.QuietTactic
namespace Go.Proofs.YtbmoehndnbbhcaaGreatDoor
set_option linter.unusedVariables false
set_option linter.unusedSimpArgs false
open Go Go.RowKit Go.MapKept
theorem lens_getD {ts : List (List OpD)} {t : Nat} {tt : List OpD} (h : ts[t]? = some tt) : (lens ts)[(t : Int).toNat]?.getD 0 = tt.length := by
  rw [Int.toNat_natCast, lens_get h]; rfl
theorem exP_iff {ts : List (List OpD)} {t : Nat} {tt : List OpD} {i : Int} (h : ts[t]? = some tt) : ExP (lens ts) ((t : Int), i) ↔ 0 ≤ i ∧ i < tt.length := by
  unfold ExP
  simp only [lens_getD h]
  omega
theorem exP_get {ts : List (List OpD)} {a : OpP} (h : ExP (lens ts) a) : ∃ (t i : Nat) (tt : List OpD) (o : OpD), a = ((t : Int), (i : Int)) ∧ ts[t]? = some tt ∧ tt[i]? = some o ∧ opAt ts a = o := by
  have hlt := h.lt
  obtain ⟨h0, h1, h2⟩ := h
  obtain ⟨a0, a1⟩ := a
  simp only at h0 h1 h2 hlt
  rw [lens_len] at hlt
  obtain ⟨t, rfl⟩ : ∃ t : Nat, a0 = t := ⟨a0.toNat, by omega⟩
  obtain ⟨i, rfl⟩ : ∃ i : Nat, a1 = i := ⟨a1.toNat, by omega⟩
  obtain ⟨tt, ht⟩ : ∃ tt, ts[t]? = some tt := ⟨_, List.getElem?_eq_getElem (by omega)⟩
  rw [lens_getD ht] at h2
  obtain ⟨o, ho⟩ : ∃ o, tt[i]? = some o := ⟨_, List.getElem?_eq_getElem (by omega)⟩
  refine ⟨t, i, tt, o, rfl, ht, ho, ?_⟩
  unfold opAt
  simp [ht, ho]
set_option maxRecDepth 100000 in
set_option maxHeartbeats 2000000 in
theorem lexists_any (w : World) (rb : Nat) (ts : List (List OpD)) (f : Nat → Nat → SpD) (h : RecAt w rb ts f) (ft : ThrFit ts) (a0 a1 : Int) :
    Calls Tryz.prog 40 #[.pointer (some ⟨rb, 0, none⟩), .agg #[.int .i64 a0, .int .i64 a1]] w fun e w' => e = .returned (.bool (decide (ExP (lens ts) (a0, a1)))) ∧ Below w.heap.size w w' := by
  have hl1 := ft.len
  have hrl := h.lt
  obtain ⟨A, c, U, d, h1, h2, h3⟩ := h
  obtain ⟨r0, r1⟩ := pair_cells h1
  have H2 := Lib.hid h2
  have FT := Lib.hid ft.each
  clear h1 h2 h3 ft r1
  go_enter Tryz.func40, Tryz.ntmps40
  go_upto_region 1 with fail
  obtain ⟨W0, hW0⟩ : ∃ W0, W0 = w.alloc (.cells #[.int .i64 a0, .int .i64 a1] 37) := ⟨_, rfl⟩
  have BX : Hid (Below w.heap.size w W0) := by rw [hW0]; exact balZ (Below.refl _ _) _
  have KA : Hid (W0.heap[w.heap.size]? = some (opBox (a0, a1))) := by
    rw [hW0]
    exact (heap_alloc w _).1
  rw [← hW0]
  obtain ⟨y0, y1⟩ := opBox_cells KA.out
  have z0 := (BX.out.cell (p := ⟨rb, 0, none⟩) hrl).trans r0
  simp only at y0 y1
  clear hW0 r0
  by_cases c1 : 0 ≤ a0
  case neg =>
    have R := Lib.hid (show decide (ExP (lens ts) (a0, a1)) = false from decide_eq_false fun h => c1 h.1)
    have d1 : decide (0 ≤ a0) = false := by simpa using c1
    clear y1 z0
    go_quiet (fail)
    go_wp2_with fail
    go_ret
    exact ⟨ret_bool R.out.symm, below_drewN BX.out _⟩
  have d1 : decide (0 ≤ a0) = true := by simpa using c1
  by_cases c2 : a0 < ts.length
  case neg =>
    have R := Lib.hid (show decide (ExP (lens ts) (a0, a1)) = false from decide_eq_false fun h => c2 (by have := h.lt; rwa [lens_len] at this))
    have d2 : decide (a0 < ts.length) = false := by simpa using c2
    clear y1
    go_quiet (fail)
    go_wp2_with fail
    go_ret
    exact ⟨ret_bool R.out.symm, below_drewN BX.out _⟩
  obtain ⟨t, rfl⟩ : ∃ t : Nat, a0 = t := ⟨a0.toNat, by omega⟩
  have d2 : decide ((t : Int) < ts.length) = true := by simpa using c2
  have tl : t < ts.length := by omega
  have d2' : decide (t < ts.length) = true := by simpa using tl
  obtain ⟨tt, htt⟩ : ∃ tt, ts[t]? = some tt := ⟨_, List.getElem?_eq_getElem tl⟩
  obtain ⟨ba, offa, rfl, hba, hca⟩ := H2.out (by omega)
  obtain ⟨u, cu, k1, _⟩ := hca t tt htt
  have z1 := (BX.out.cell (p := ⟨ba, _, none⟩) hba).trans k1
  have EX := Lib.hid (exP_iff (i := a1) htt)
  have hl2 := FT.out tt (List.mem_of_getElem? htt)
  clear hca htt k1
  by_cases c3 : 0 ≤ a1
  case neg =>
    have R := Lib.hid (show decide (ExP (lens ts) ((t : Int), a1)) = false from decide_eq_false fun h => c3 (EX.out.1 h).1)
    have d3 : decide (0 ≤ a1) = false := by simpa using c3
    clear z1
    go_quiet (fail)
    go_wp2_with fail
    go_ret
    exact ⟨ret_bool R.out.symm, below_drewN BX.out _⟩
  have d3 : decide (0 ≤ a1) = true := by simpa using c3
  by_cases c4 : a1 < tt.length
  · have R := Lib.hid (show decide (ExP (lens ts) ((t : Int), a1)) = true from decide_eq_true (EX.out.2 ⟨c3, c4⟩))
    have d4 : decide (a1 < tt.length) = true := by simpa using c4
    go_quiet (fail)
    go_wp2_with fail
    go_ret
    exact ⟨ret_bool R.out.symm, below_drewN BX.out _⟩
  · have R := Lib.hid (show decide (ExP (lens ts) ((t : Int), a1)) = false from decide_eq_false fun h => c4 (EX.out.1 h).2)
    have d4 : decide (a1 < tt.length) = false := by simpa using c4
    go_quiet (fail)
    go_wp2_with fail
    go_ret
    exact ⟨ret_bool R.out.symm, below_drewN BX.out _⟩
end Go.Proofs.YtbmoehndnbbhcaaGreatDoor
namespace Go.Proofs.YtbmoehndnbbhcaaGreatDoor
set_option linter.unusedVariables false
set_option linter.unusedSimpArgs false
open Go Go.RowKit Go.MapKept
theorem two_pair (w : World) (a b : OpP) : ((w.alloc (.cells #[.int .i64 a.1, .int .i64 a.2] 37)).alloc (.cells #[.int .i64 b.1, .int .i64 b.2] 37)).heap[w.heap.size]? = some (opBox a) ∧
    ((w.alloc (.cells #[.int .i64 a.1, .int .i64 a.2] 37)).alloc (.cells #[.int .i64 b.1, .int .i64 b.2] 37)).heap[w.heap.size + 1]? = some (opBox b) := by
  have h1 := (heap_alloc (w.alloc (.cells #[.int .i64 a.1, .int .i64 a.2] 37)) (.cells #[.int .i64 b.1, .int .i64 b.2] 37)).1
  have z : (w.alloc (.cells #[.int .i64 a.1, .int .i64 a.2] 37)).heap.size = w.heap.size + 1 := by simp
  rw [z] at h1
  exact ⟨(Below.heap_alloc _ _ _ (by simp)).trans (heap_alloc w _).1, h1⟩
/-- what numbered hands out -/
def numOut : Option OpP → Value
  | none => .tuple #[.agg #[.int .i64 0, .int .i64 0], .bool false]
  | some b => .tuple #[.agg #[.int .i64 b.1, .int .i64 b.2], .bool true]
theorem numberOf_back {h : Int} (h1 : 1 ≤ h) (h2 : h ≤ 128) : numberOf ((h - 1) / 16) ((h - 1) % 16) = h := by
  unfold numberOf
  rw [if_neg (by omega)]
  omega
set_option maxRecDepth 100000 in
set_option maxHeartbeats 2000000 in
theorem lnumbered_any (w : World) (rb : Nat) (ts : List (List OpD)) (f : Nat → Nat → SpD) (h : RecAt w rb ts f) (ft : ThrFit ts) (n : Int) :
    Calls Tryz.prog 55 #[.pointer (some ⟨rb, 0, none⟩), .int .i64 n] w fun e w' => e = .returned (numOut (numP (lens ts) n)) ∧ Below w.heap.size w w' := by
  have H := Lib.hid h
  clear h
  have B0 := Lib.hid (balZ (Below.refl w.heap.size w) (.cells #[.int .i64 0, .int .i64 0] 37))
  by_cases c1 : n < 1
  · have R := Lib.hid (show numP (lens ts) n = none from if_pos (Or.inl c1))
    go_enter Tryz.func55, Tryz.ntmps55
    go_wp2_with fail
    refine bodyPost_ret (v := .tuple #[.agg #[.int .i64 0, .int .i64 0], .bool false]) (by simp [results, Tryz.results55, go_sem]) rfl ⟨by rw [R.out]; rfl, ?_⟩
    repeat (first | exact B0.out | (refine below_set ?_ (by omega)))
  by_cases c2 : 128 < n
  · have R := Lib.hid (show numP (lens ts) n = none from if_pos (Or.inr c2))
    go_enter Tryz.func55, Tryz.ntmps55
    go_wp2_with fail
    refine bodyPost_ret (v := .tuple #[.agg #[.int .i64 0, .int .i64 0], .bool false]) (by simp [results, Tryz.results55, go_sem]) rfl ⟨by rw [R.out]; rfl, ?_⟩
    repeat (first | exact B0.out | (refine below_set ?_ (by omega)))
  have NB := Lib.hid (numberOf_back (h := n) (by omega) (by omega))
  have m0 : 0 ≤ n - 1 := by omega
  by_cases hex : ExP (lens ts) ((n - 1) / 16, (n - 1) % 16)
  · have R := Lib.hid (show numP (lens ts) n = some ((n - 1) / 16, (n - 1) % 16) by unfold numP; rw [if_neg (by omega), if_pos hex])
    have hd := decide_eq_true hex
    clear hex
    go_enter Tryz.func55, Tryz.ntmps55
    go_upto_region 4 with fail
    obtain ⟨W0, hW0⟩ : ∃ W0, W0 = (w.alloc (.cells #[.int .i64 0, .int .i64 0] 37)).alloc (.cells #[.int .i64 ((n - 1) / 16), .int .i64 ((n - 1) % 16)] 37) := ⟨_, rfl⟩
    have BX : Hid (Below w.heap.size w W0) := by rw [hW0]; exact balZ (balZ (Below.refl _ _) _) _
    have KA : Hid (W0.heap[w.heap.size]? = some (opBox (0, 0)) ∧ W0.heap[w.heap.size + 1]? = some (opBox ((n - 1) / 16, (n - 1) % 16))) := by rw [hW0]; exact two_pair w (0, 0) ((n - 1) / 16, (n - 1) % 16)
    rw [← hW0]
    clear hW0
    obtain ⟨y0, y1⟩ := opBox_cells KA.out.2
    go_wp2_with (first | (go_at_call 40; refine stopAt ?_))
    unfold StopAt
    refine (lexists_any W0 rb ts f (H.out.below BX.out) ft _ _).mono ?_
    rintro e w1 ⟨rfl, hb1⟩
    have K1 := Lib.hid (And.intro (opBox_kept KA.out.1 hb1) (opBox_kept KA.out.2 hb1))
    have B1 := Lib.hid (BX.out.trans (hb1.mono BX.out.size))
    clear hb1 y0 y1
    obtain ⟨y0, y1⟩ := opBox_cells K1.out.2
    obtain ⟨x0, x1⟩ := opBox_cells K1.out.1
    have fz := cells_free K1.out.1
    rw [hd]
    clear hd
    go_wp2_with (first | (go_at_call 36; refine stopAt ?_))
    unfold StopAt
    refine (number_any _ _ _).mono ?_
    rintro e w2 ⟨rfl, rfl⟩
    rw [NB.out]
    go_wp2_with fail
    refine bodyPost_ret (v := .tuple #[.agg #[.int .i64 ((n - 1) / 16), .int .i64 ((n - 1) % 16)], .bool true]) (by simp [results, Tryz.results55, go_sem, x0, x1]) rfl ⟨by rw [R.out]; rfl, ?_⟩
    repeat (first | exact B1.out | (refine below_set ?_ (by omega)))
  · have R := Lib.hid (show numP (lens ts) n = none by unfold numP; rw [if_neg (by omega), if_neg hex])
    have hd := decide_eq_false hex
    clear hex
    go_enter Tryz.func55, Tryz.ntmps55
    go_upto_region 4 with fail
    obtain ⟨W0, hW0⟩ : ∃ W0, W0 = (w.alloc (.cells #[.int .i64 0, .int .i64 0] 37)).alloc (.cells #[.int .i64 ((n - 1) / 16), .int .i64 ((n - 1) % 16)] 37) := ⟨_, rfl⟩
    have BX : Hid (Below w.heap.size w W0) := by rw [hW0]; exact balZ (balZ (Below.refl _ _) _) _
    have KA : Hid (W0.heap[w.heap.size]? = some (opBox (0, 0)) ∧ W0.heap[w.heap.size + 1]? = some (opBox ((n - 1) / 16, (n - 1) % 16))) := by rw [hW0]; exact two_pair w (0, 0) ((n - 1) / 16, (n - 1) % 16)
    rw [← hW0]
    clear hW0
    obtain ⟨y0, y1⟩ := opBox_cells KA.out.2
    go_wp2_with (first | (go_at_call 40; refine stopAt ?_))
    unfold StopAt
    refine (lexists_any W0 rb ts f (H.out.below BX.out) ft _ _).mono ?_
    rintro e w1 ⟨rfl, hb1⟩
    have K1 := Lib.hid (And.intro (opBox_kept KA.out.1 hb1) (opBox_kept KA.out.2 hb1))
    have B1 := Lib.hid (BX.out.trans (hb1.mono BX.out.size))
    clear hb1 y0 y1
    obtain ⟨y0, y1⟩ := opBox_cells K1.out.2
    obtain ⟨x0, x1⟩ := opBox_cells K1.out.1
    have fz := cells_free K1.out.1
    rw [hd]
    clear hd
    go_wp2_with fail
    refine bodyPost_ret (v := .tuple #[.agg #[.int .i64 0, .int .i64 0], .bool false]) (by simp [results, Tryz.results55, go_sem, x0, x1]) rfl ⟨by rw [R.out]; rfl, ?_⟩
    repeat (first | exact B1.out | (refine below_set ?_ (by omega)))
end Go.Proofs.YtbmoehndnbbhcaaGreatDoor
namespace Go.Proofs.YtbmoehndnbbhcaaGreatDoor
set_option linter.unusedVariables false
set_option linter.unusedSimpArgs false
open Go Go.RowKit Go.MapKept
def SpD.refused (s : SpD) : Bool := s.ret != -1 && s.res.err == 5
theorem span_refused (l : List EvD) (a : OpP) : (spanP l a).refused = refusedP l a := by
  unfold SpD.refused spanP refusedP
  cases hr : resultP l a with
  | none => simp [result_none.1 hr]
  | some r =>
    have : whenP l a true ≠ -1 := fun h => by rw [result_none.2 h] at hr; simp at hr
    simp [this]
theorem lsref_any (w : World) (s : SpD) : Calls Tryz.prog 33 #[s.val] w fun e w' => e = .returned (.bool s.refused) ∧ Below w.heap.size w w' := by
  obtain ⟨si, sr, ⟨e, f, v, k, c, r, o, b⟩⟩ := s
  simp only [SpD.val, SpD.refused]
  have B0 := Lib.hid (balZ (Below.refl w.heap.size w) (.cells #[.int .i64 si, .int .i64 sr, .int .i64 e, .bool f, .int .u64 v, .string k, .int .i64 c, .int .i64 r, .int .i64 o, .bool b] 63))
  go_enter Tryz.func33, Tryz.ntmps33
  go_wp2_with fail
  all_goals
    go_ret
    exact ⟨by simp_all, balZ (Below.refl _ _) _⟩
/-- what justifies gives: the refusal of an operation -/
def lateS (s b : SpD) : Bool := decide (b.ret = -1) || decide (b.res.err ≠ 0) || decide (s.inv < b.ret)
/-- a record of a proper history -/
structure RecOk (w : World) (rb : Nat) (ts : List (List OpD)) (l : List EvD) : Prop where
  at_ : RecAt w rb ts (fun t i => spanP l ((t : Int), (i : Int)))
  fit : ThrFit ts
  proper : ProperP (lens ts) l
  small : ¬ BigP (lens ts)
theorem RecOk.below {w W : World} {rb : Nat} {ts : List (List OpD)} {l : List EvD} (h : RecOk w rb ts l) (hb : Below w.heap.size w W) : RecOk W rb ts l := ⟨h.at_.below hb, h.fit, h.proper, h.small⟩
theorem numP_ex {ops : List Nat} {n : Int} {b : OpP} (h : numP ops n = some b) : ExP ops b := by
  unfold numP at h
  split at h
  · simp at h
  · split at h
    · rename_i hx
      obtain rfl := Option.some.inj h
      exact hx
    · simp at h
theorem ex_i64 {ts : List (List OpD)} {b : OpP} (hs : ¬ BigP (lens ts)) (h : ExP (lens ts) b) : 0 ≤ b.1 ∧ b.1 < 8 ∧ 0 ≤ b.2 ∧ b.2 < 16 := by
  have hl := h.lt
  obtain ⟨t, i, tt, o, rfl, ht, ho, _⟩ := exP_get h
  have h8 : ¬ 8 < (lens ts).length := fun hh => hs (Or.inl hh)
  have h16 : ¬ 16 < tt.length := fun hh => hs (big_of ht hh)
  have := (List.getElem?_eq_some_iff.1 ho).1
  simp only at hl ⊢
  omega
theorem late_eq {ts : List (List OpD)} {l : List EvD} (hp : ProperP (lens ts) l) {a b : OpP} (ha : whenP l a false ≠ -1) : lateS (spanP l a) (spanP l b) = lateP l a b := by
  unfold lateS spanP lateP
  cases hr : resultP l b with
  | none => simp [result_none.1 hr]
  | some r =>
    have hw : whenP l b true ≠ -1 := fun h => by rw [result_none.2 h] at hr; simp at hr
    have lo := when_lo l b true
    have hne : whenP l b true ≠ whenP l a false := fun h => by
      obtain ⟨i, e, hi, he, hwi⟩ := when_nat hw
      obtain ⟨j, f, hj, hf, hwj⟩ := when_nat ha
      have hij : i = j := by omega
      subst hij
      rw [hi] at hj
      obtain rfl := Option.some.inj hj
      have := he.2.2.symm.trans hf.2.2
      simp at this
    simp only [Option.getD_some, beforeP, decide_eq_false hw, Bool.false_or]
    congr 1
    rw [Bool.eq_iff_iff]
    simp only [decide_eq_true_eq, Bool.not_eq_true', Bool.and_eq_false_iff, decide_eq_false_iff_not]
    omega
end Go.Proofs.YtbmoehndnbbhcaaGreatDoor
