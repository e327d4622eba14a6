/- Threads, events and lists of operations in memory. The walks of the reference's find, walk and Get. The walk of the reference's when. -/
import Derived.Test.YtbmoehndnbbhcaaGreatDoorMLtP
import Derived.Test.YtbmoehndnbbhcaaGreatDoorMRMem
import Derived.BigQuiet
namespace Go.Proofs.YtbmoehndnbbhcaaGreatDoor
set_option linter.unusedVariables false
set_option linter.unusedSimpArgs false
open Go Go.RowKit
def OpsAt (w : World) (u : Option Addr) (t : List OpD) : Prop :=
  0 < t.length → ∃ b off, u = some ⟨b, off, none⟩ ∧ b < w.heap.size ∧ ∀ k o, t[k]? = some o →
    w.cell? ⟨b, off + k * 5, none⟩ = some (.int .i64 o.kind) ∧ w.cell? ⟨b, off + k * 5 + 1, none⟩ = some (.int .i64 o.handle) ∧ w.cell? ⟨b, off + k * 5 + 2, none⟩ = some (.string o.key) ∧
    w.cell? ⟨b, off + k * 5 + 3, none⟩ = some (.int .u64 o.value) ∧ w.cell? ⟨b, off + k * 5 + 4, none⟩ = some (.int .u64 o.expect)
def ThrAt (w : World) (A : Option Addr) (ts : List (List OpD)) : Prop :=
  0 < ts.length → ∃ b off, A = some ⟨b, off, none⟩ ∧ b < w.heap.size ∧ ∀ i t, ts[i]? = some t → ∃ u c, w.cell? ⟨b, off + i, none⟩ = some (.slice u t.length c) ∧ OpsAt w u t
/-- the cells of a result -/
def ResF.cells (r : ResF) : List Value := [.int .i64 r.err, .bool r.found, .int .u64 r.value, .string r.key, .int .i64 r.count, .int .i64 r.ref, .int .i64 r.root, .bool r.ro]
def EvD.cells (e : EvD) : List Value := .int .i64 e.thread :: .int .i64 e.index :: .bool e.ret :: e.res.cells
def EvsAt (w : World) (A : Option Addr) (l : List EvD) : Prop :=
  0 < l.length → ∃ b off, A = some ⟨b, off, none⟩ ∧ b < w.heap.size ∧ ∀ k e, l[k]? = some e → ∀ j v, e.cells[j]? = some v → w.cell? ⟨b, off + k * 11 + j, none⟩ = some v
def OrdAt (w : World) (A : Option Addr) (l : List OpP) : Prop :=
  0 < l.length → ∃ b off, A = some ⟨b, off, none⟩ ∧ b < w.heap.size ∧ ∀ k a, l[k]? = some a → w.cell? ⟨b, off + k * 2, none⟩ = some (.int .i64 a.1) ∧ w.cell? ⟨b, off + k * 2 + 1, none⟩ = some (.int .i64 a.2)
theorem OpsAt.below {w W : World} {u : Option Addr} {t : List OpD} (h : OpsAt w u t) (hB : Below w.heap.size w W) : OpsAt W u t := fun h0 => by
  obtain ⟨b, off, e, hb, hc⟩ := h h0
  have k := fun i => hB.cell (p := ⟨b, i, none⟩) hb
  exact ⟨b, off, e, Nat.lt_of_lt_of_le hb hB.size, fun i o ho => by obtain ⟨c0, c1, c2, c3, c4⟩ := hc i o ho; exact ⟨(k _).trans c0, (k _).trans c1, (k _).trans c2, (k _).trans c3, (k _).trans c4⟩⟩
theorem ThrAt.below {w W : World} {A : Option Addr} {ts : List (List OpD)} (h : ThrAt w A ts) (hB : Below w.heap.size w W) : ThrAt W A ts := fun h0 => by
  obtain ⟨b, off, e, hb, hc⟩ := h h0
  exact ⟨b, off, e, Nat.lt_of_lt_of_le hb hB.size, fun i t ht => by obtain ⟨u, c, e1, e2⟩ := hc i t ht; exact ⟨u, c, (hB.cell (p := ⟨b, _, none⟩) hb).trans e1, e2.below hB⟩⟩
theorem EvsAt.below {w W : World} {A : Option Addr} {l : List EvD} (h : EvsAt w A l) (hB : Below w.heap.size w W) : EvsAt W A l := fun h0 => by
  obtain ⟨b, off, e, hb, hc⟩ := h h0
  exact ⟨b, off, e, Nat.lt_of_lt_of_le hb hB.size, fun k x hx j v hj => (hB.cell (p := ⟨b, _, none⟩) hb).trans (hc k x hx j v hj)⟩
theorem OrdAt.below {w W : World} {A : Option Addr} {l : List OpP} (h : OrdAt w A l) (hB : Below w.heap.size w W) : OrdAt W A l := fun h0 => by
  obtain ⟨b, off, e, hb, hc⟩ := h h0
  exact ⟨b, off, e, Nat.lt_of_lt_of_le hb hB.size, fun k a ha => by obtain ⟨c0, c1⟩ := hc k a ha; exact ⟨(hB.cell (p := ⟨b, _, none⟩) hb).trans c0, (hB.cell (p := ⟨b, _, none⟩) hb).trans c1⟩⟩
end Go.Proofs.YtbmoehndnbbhcaaGreatDoor
namespace Go.Proofs.YtbmoehndnbbhcaaGreatDoor
set_option linter.unusedVariables false
set_option linter.unusedSimpArgs false
open Go Go.RowKit Go.MapKept
theorem idxO_map {α : Type} (x : Option (Nat × α)) (j : Nat) (h : x = none) : idxO (x.map (fun p => (p.1 + j, p.2))) = -1 := by subst h; rfl
theorem findM_skip (ms : List RMap) (n : Int) : ∀ j, j ≤ ms.length → (∀ k d, k < j → ms[k]? = some d → d.num ≠ n) → findM ms n = (findM (ms.drop j) n).map (fun p => (p.1 + j, p.2)) := by
  induction ms with
  | nil => intro j hj h; have : j = 0 := by simpa using hj
           subst this; rfl
  | cons a r ih =>
    intro j hj h
    cases j with
    | zero => simp
    | succ j =>
      have h0 : a.num ≠ n := h 0 a (by omega) (by simp)
      have := ih j (by simpa using hj) (fun k d hk hd => h (k + 1) d (by omega) (by simpa using hd))
      simp only [findM, if_neg h0, List.drop_succ_cons]
      rw [this, Option.map_map]
      congr 1
theorem findM_hit {ms : List RMap} {n : Int} {j : Nat} {d : RMap} (hd : ms[j]? = some d) (hn : d.num = n) (h : ∀ k x, k < j → ms[k]? = some x → x.num ≠ n) : findM ms n = some (j, d) := by
  obtain ⟨hj, e⟩ := List.getElem?_eq_some_iff.1 hd
  rw [findM_skip ms n j (by omega) h, List.drop_eq_getElem_cons hj, e]
  simp [findM, hn]
theorem findM_miss {ms : List RMap} {n : Int} (h : ∀ k x, k < ms.length → ms[k]? = some x → x.num ≠ n) : findM ms n = none := by
  rw [findM_skip ms n ms.length (by omega) h]
  simp [findM]
theorem findW_skip (ms : List (Int × IterD)) (n : Int) : ∀ j, j ≤ ms.length → (∀ k d, k < j → ms[k]? = some d → d.1 ≠ n) → findW ms n = (findW (ms.drop j) n).map (fun p => (p.1 + j, p.2)) := by
  induction ms with
  | nil => intro j hj h; have : j = 0 := by simpa using hj
           subst this; rfl
  | cons a r ih =>
    intro j hj h
    cases j with
    | zero => simp
    | succ j =>
      have h0 : a.1 ≠ n := h 0 a (by omega) (by simp)
      have := ih j (by simpa using hj) (fun k d hk hd => h (k + 1) d (by omega) (by simpa using hd))
      simp only [findW, if_neg h0, List.drop_succ_cons]
      rw [this, Option.map_map]
      congr 1
theorem findW_hit {ms : List (Int × IterD)} {n : Int} {j : Nat} {d : Int × IterD} (hd : ms[j]? = some d) (hn : d.1 = n) (h : ∀ k x, k < j → ms[k]? = some x → x.1 ≠ n) : findW ms n = some (j, d.2) := by
  obtain ⟨hj, e⟩ := List.getElem?_eq_some_iff.1 hd
  rw [findW_skip ms n j (by omega) h, List.drop_eq_getElem_cons hj, e]
  simp [findW, hn]
theorem findW_miss {ms : List (Int × IterD)} {n : Int} (h : ∀ k x, k < ms.length → ms[k]? = some x → x.1 ≠ n) : findW ms n = none := by
  rw [findW_skip ms n ms.length (by omega) h]
  simp [findW]
def FRelM (ms : List RMap) (n : Int) (i : Value) : Prop := ∃ j : Nat, j ≤ ms.length ∧ i = .int .i64 j ∧ ∀ k x, k < j → ms[k]? = some x → x.num ≠ n
def FRelW (ms : List (Int × IterD)) (n : Int) (i : Value) : Prop := ∃ j : Nat, j ≤ ms.length ∧ i = .int .i64 j ∧ ∀ k x, k < j → ms[k]? = some x → x.1 ≠ n
set_option maxHeartbeats 1000000 in
theorem find_any (T : Nat → Prop) (w : World) (A D : Option Addr) (c d : Nat) (g : RFam) (h : RFamAt T w A D g) (n : Int) :
    Calls Tryz.prog 51 #[rfamV g A c D d, .int .i64 n] w fun e w' => e = .returned (.int .i64 (idxO (findM g.maps n))) ∧ Below w.heap.size w w' := by
  have HM := Lib.hid h.maps
  have hl : g.maps.length ≤ 1048576 := h.fit.lm
  obtain ⟨m, ms, ws⟩ := g
  simp only at HM hl
  have BX := Lib.hid ((Below.refl w.heap.size w).alloc (Nat.le_refl _) (.cells #[.int .u64 m, .slice A ms.length c, .slice D ws.length d] 72))
  clear h
  simp only [rfamV]
  go_enter Tryz.func51, Tryz.ntmps51
  go_wp2_with fail
  go_loop [5] (fun i => FRelM ms n i) (fun i => ms.length - (intOf i).toNat)
  case atStart => exact ⟨0, by omega, rfl, fun k x hk => by omega⟩
  case round =>
    obtain ⟨j, hj, rfl, hne⟩ := hrel
    have NE := Lib.hid hne
    clear hne
    by_cases hlt : j < ms.length
    · obtain ⟨x, hx⟩ : ∃ x, ms[j]? = some x := ⟨_, List.getElem?_eq_getElem hlt⟩
      obtain ⟨b, rfl, hT, hb, hc⟩ := HM.out (by omega)
      obtain ⟨u, cu, c0, c1, c2, c3⟩ := hc j x hx
      have hj0 : (0 : Int) ≤ j := by omega
      have hj1 : (j : Int) < ms.length := by omega
      have HX := Lib.hid hx
      clear hx hc c3
      by_cases hn : x.num = n
      · have R := Lib.hid (findM_hit HX.out hn NE.out)
        have hnb : (x.num == n) = true := by simp [hn]
        go_wp2_with fail
        go_ret
        refine ⟨?_, BX.out⟩
        rw [R.out]
        rfl
      · have hnb : (x.num == n) = false := by simp [hn]
        have HN := Lib.hid hn
        clear hn
        go_wp2_with fail
        go_round
        case rel =>
          refine ⟨j + 1, by omega, by go_num, fun k y hk hy => ?_⟩
          by_cases hkj : k = j
          · subst hkj
            rw [HX.out] at hy
            obtain rfl := Option.some.inj hy
            exact HN.out
          · exact NE.out k y (by omega) hy
        case measure => simp [intOf]; omega
    · have R := Lib.hid (findM_miss (ms := ms) (n := n) fun k x hk => NE.out k x (by omega))
      go_wp2_with fail
      go_ret
      refine ⟨?_, BX.out⟩
      rw [R.out]
      rfl
set_option maxHeartbeats 1000000 in
theorem walk_any (T : Nat → Prop) (w : World) (A D : Option Addr) (c d : Nat) (g : RFam) (h : RFamAt T w A D g) (n : Int) :
    Calls Tryz.prog 53 #[rfamV g A c D d, .int .i64 n] w fun e w' => e = .returned (.int .i64 (idxO (findW g.walks n))) ∧ Below w.heap.size w w' := by
  have HM := Lib.hid h.walks
  have hl : g.walks.length ≤ 1048576 := h.fit.lw
  obtain ⟨m, ms, ws⟩ := g
  simp only at HM hl
  have BX := Lib.hid ((Below.refl w.heap.size w).alloc (Nat.le_refl _) (.cells #[.int .u64 m, .slice A ms.length c, .slice D ws.length d] 72))
  clear h
  simp only [rfamV]
  go_enter Tryz.func53, Tryz.ntmps53
  go_wp2_with fail
  go_loop [5] (fun i => FRelW ws n i) (fun i => ws.length - (intOf i).toNat)
  case atStart => exact ⟨0, by omega, rfl, fun k x hk => by omega⟩
  case round =>
    obtain ⟨j, hj, rfl, hne⟩ := hrel
    have NE := Lib.hid hne
    clear hne
    by_cases hlt : j < ws.length
    · obtain ⟨x, hx⟩ : ∃ x, ws[j]? = some x := ⟨_, List.getElem?_eq_getElem hlt⟩
      obtain ⟨b, rfl, hT, hb, hc⟩ := HM.out (by omega)
      obtain ⟨c0, c1, c2, c3⟩ := hc j x hx
      have hj0 : (0 : Int) ≤ j := by omega
      have hj1 : (j : Int) < ws.length := by omega
      have HX := Lib.hid hx
      clear hx hc c1 c2 c3
      by_cases hn : x.1 = n
      · have R := Lib.hid (findW_hit HX.out hn NE.out)
        have hnb : (x.1 == n) = true := by simp [hn]
        go_wp2_with fail
        go_ret
        refine ⟨?_, BX.out⟩
        rw [R.out]
        rfl
      · have hnb : (x.1 == n) = false := by simp [hn]
        have HN := Lib.hid hn
        clear hn
        go_wp2_with fail
        go_round
        case rel =>
          refine ⟨j + 1, by omega, by go_num, fun k y hk hy => ?_⟩
          by_cases hkj : k = j
          · subst hkj
            rw [HX.out] at hy
            obtain rfl := Option.some.inj hy
            exact HN.out
          · exact NE.out k y (by omega) hy
        case measure => simp [intOf]; omega
    · have R := Lib.hid (findW_miss (ms := ws) (n := n) fun k x hk => NE.out k x (by omega))
      go_wp2_with fail
      go_ret
      refine ⟨?_, BX.out⟩
      rw [R.out]
      rfl
theorem alook_hit {l : PL} {k : ByteArray} {j : Nat} {x : ByteArray × Int} (hx : l[j]? = some x) (hk : x.1 = k) (h : ∀ i y, i < j → l[i]? = some y → y.1 ≠ k) : alook l k = some x.2 := by
  induction l generalizing j with
  | nil => simp at hx
  | cons p r ih =>
    obtain ⟨a, b⟩ := p
    cases j with
    | zero =>
      simp only [List.getElem?_cons_zero, Option.some.injEq] at hx
      subst hx
      have : a = k := hk
      simp [alook, this]
    | succ j =>
      have h0 : a ≠ k := h 0 (a, b) (by omega) (by simp)
      simp only [alook, if_neg h0]
      exact ih (by simpa using hx) fun i y hi hy => h (i + 1) y (by omega) (by simpa using hy)
theorem alook_miss {l : PL} {k : ByteArray} (h : ∀ i y, i < l.length → l[i]? = some y → y.1 ≠ k) : alook l k = none := by
  refine alook_none fun p hp => ?_
  obtain ⟨i, hi, e⟩ := List.getElem_of_mem hp
  exact h i p hi (by rw [List.getElem?_eq_getElem hi, e])
def GRel (l : PL) (k : ByteArray) (i : Value) : Prop := ∃ j : Nat, j ≤ l.length ∧ i = .int .i64 j ∧ ∀ i y, i < j → l[i]? = some y → y.1 ≠ k
set_option maxHeartbeats 1000000 in
theorem get_any (T : Nat → Prop) (w : World) (A : Option Addr) (c : Nat) (l : PL) (h : PrAt T w A l) (hl : l.length ≤ 1048576) (k : ByteArray) :
    Calls Tryz.prog 66 #[.slice A l.length c, .string k] w fun e w' => e = .returned (.tuple #[.int .u64 ((alook l k).getD 0), .bool (alook l k).isSome]) ∧ w' = w := by
  have H := Lib.hid h
  clear h
  go_enter Tryz.func66, Tryz.ntmps66
  go_wp2_with fail
  go_loop [6] (fun i => GRel l k i) (fun i => l.length - (intOf i).toNat)
  case atStart => exact ⟨0, by omega, rfl, fun k x hk => by omega⟩
  case round =>
    obtain ⟨j, hj, rfl, hne⟩ := hrel
    have NE := Lib.hid hne
    clear hne
    by_cases hlt : j < l.length
    · obtain ⟨x, hx⟩ : ∃ x, l[j]? = some x := ⟨_, List.getElem?_eq_getElem hlt⟩
      obtain ⟨b, rfl, hT, hb, hc⟩ := H.out (by omega)
      obtain ⟨c0, c1⟩ := hc j x hx
      have hj0 : (0 : Int) ≤ j := by omega
      have hj1 : (j : Int) < l.length := by omega
      have HX := Lib.hid hx
      clear hx hc
      by_cases hn : x.1 = k
      · have R := Lib.hid (alook_hit HX.out hn NE.out)
        have hnb : (x.1.toList == k.toList) = true := by simp [hn]
        clear hn
        go_wp2_with fail
        go_ret2
        refine ⟨?_, rfl⟩
        rw [R.out]
        rfl
      · have hnb : (x.1.toList == k.toList) = false := beq_eq_false_iff_ne.2 fun e => hn (bytes_ext _ _ e)
        have HN := Lib.hid hn
        clear hn
        go_wp2_with fail
        go_round
        case rel =>
          refine ⟨j + 1, by omega, by go_num, fun i y hk hy => ?_⟩
          by_cases hkj : i = j
          · subst hkj
            rw [HX.out] at hy
            obtain rfl := Option.some.inj hy
            exact HN.out
          · exact NE.out i y (by omega) hy
        case measure => simp [intOf]; omega
    · have R := Lib.hid (alook_miss (l := l) (k := k) fun i x hk => NE.out i x (by omega))
      go_wp2_with fail
      go_ret2
      refine ⟨?_, rfl⟩
      rw [R.out]
      rfl
end Go.Proofs.YtbmoehndnbbhcaaGreatDoor
namespace Go.Proofs.YtbmoehndnbbhcaaGreatDoor
set_option linter.unusedVariables false
set_option linter.unusedSimpArgs false
open Go Go.RowKit Go.MapKept
/-- an event of an operation -/
def EvD.is (e : EvD) (a : OpP) (back : Bool) : Prop := e.thread = a.1 ∧ e.index = a.2 ∧ e.ret = back
theorem when_hit {l : List EvD} {a : OpP} {b : Bool} {j : Nat} {e : EvD} (hj : l[j]? = some e) (he : e.is a b) (h : ∀ k x, k < j → l[k]? = some x → ¬ x.is a b) : whenP l a b = j := by
  obtain ⟨hlt, e1⟩ := List.getElem?_eq_some_iff.1 hj
  have hf : l.findIdx? (fun e => e.thread == a.1 && e.index == a.2 && e.ret == b) = some j := by
    refine List.findIdx?_eq_some_iff_getElem.2 ⟨hlt, ?_, fun k hk => ?_⟩
    · obtain ⟨h1, h2, h3⟩ := he
      simp [e1, h1, h2, h3]
    · have := h k l[k] hk (List.getElem?_eq_getElem (by omega))
      unfold EvD.is at this
      simp only [Bool.and_eq_true, beq_iff_eq, and_assoc]
      simpa using this
  unfold whenP
  rw [hf]
theorem when_miss {l : List EvD} {a : OpP} {b : Bool} (h : ∀ k x, k < l.length → l[k]? = some x → ¬ x.is a b) : whenP l a b = -1 := by
  have hf : l.findIdx? (fun e => e.thread == a.1 && e.index == a.2 && e.ret == b) = none := by
    refine List.findIdx?_eq_none_iff.2 fun x hx => ?_
    obtain ⟨k, hk, e⟩ := List.getElem_of_mem hx
    have := h k x hk (by rw [List.getElem?_eq_getElem hk, e])
    unfold EvD.is at this
    rw [Bool.eq_false_iff]
    simp only [ne_eq, Bool.and_eq_true, beq_iff_eq, and_assoc]
    exact this
  unfold whenP
  rw [hf]
theorem below_drewN {B : Nat} {a b : World} (h : Below B a b) (n : Nat) : Below B a (b.drewN n) := ⟨h.os, h.tape, h.output, h.size, h.block⟩
def WhRel (l : List EvD) (a : OpP) (b : Bool) (i : Value) : Prop := ∃ j : Nat, j ≤ l.length ∧ i = .int .i64 j ∧ ∀ k x, k < j → l[k]? = some x → ¬ x.is a b
theorem ev_cells {w : World} {b off : Nat} {e : EvD} {k : Nat} (h : ∀ j v, e.cells[j]? = some v → w.cell? ⟨b, off + k * 11 + j, none⟩ = some v) :
    w.cell? ⟨b, off + k * 11, none⟩ = some (.int .i64 e.thread) ∧ w.cell? ⟨b, off + k * 11 + 1, none⟩ = some (.int .i64 e.index) ∧ w.cell? ⟨b, off + k * 11 + 2, none⟩ = some (.bool e.ret) :=
  ⟨h 0 _ rfl, h 1 _ rfl, h 2 _ rfl⟩
set_option maxHeartbeats 1000000 in
theorem when_any (w : World) (A : Option Addr) (c : Nat) (l : List EvD) (hl : l.length ≤ 1048576) (h : EvsAt w A l) (x y : Int) (back : Bool) :
    Calls Tryz.prog 24 #[.slice A l.length c, .agg #[.int .i64 x, .int .i64 y], .bool back] w fun e w' => e = .returned (.int .i64 (whenP l (x, y) back)) ∧ Below w.heap.size w w' := by
  have HM := Lib.hid h
  clear h
  go_enter Tryz.func24, Tryz.ntmps24
  go_wp2_with fail
  obtain ⟨W0, hW0⟩ : ∃ W0, W0 = w.alloc (.cells #[.int .i64 x, .int .i64 y] 37) := ⟨_, rfl⟩
  have BX : Hid (Below w.heap.size w W0) := by rw [hW0]; exact (Below.refl w.heap.size w).alloc (Nat.le_refl _) _
  have KX : Hid (∀ W, Below W0.heap.size W0 W → W.cell? ⟨w.heap.size, 0, none⟩ = some (.int .i64 x) ∧ W.cell? ⟨w.heap.size, 1, none⟩ = some (.int .i64 y)) := by
    have hk : W0.heap[w.heap.size]? = some (.cells #[.int .i64 x, .int .i64 y] 37 (0, 0)) := by rw [hW0]; exact (heap_alloc w _).1
    exact fun W hb => ⟨blk_cell ((hb.block _ (Array.getElem?_eq_some_iff.1 hk).1).trans hk) 0, blk_cell ((hb.block _ (Array.getElem?_eq_some_iff.1 hk).1).trans hk) 1⟩
  rw [← hW0]
  have HM0 := Lib.hid (HM.out.below BX.out)
  clear hW0 HM
  go_loopw [7] (fun i wr => WhRel l (x, y) back i ∧ Below W0.heap.size W0 wr) (fun i _ => l.length - (intOf i).toNat)
  case atStart => exact ⟨⟨0, by omega, rfl, fun k x hk => by omega⟩, Below.refl _ _⟩
  case round =>
    obtain ⟨⟨j, hj, rfl, hne⟩, hbr⟩ := hrel
    have NE := Lib.hid hne
    have BR := Lib.hid hbr
    have BE := Lib.hid (BX.out.trans (BR.out.mono BX.out.size))
    obtain ⟨y0, y1⟩ := KX.out _ hbr
    clear hne hbr
    by_cases hlt : j < l.length
    · obtain ⟨e, hx⟩ : ∃ e, l[j]? = some e := ⟨_, List.getElem?_eq_getElem hlt⟩
      obtain ⟨b, off, rfl, hb, hc⟩ := (HM0.out.below BR.out) (by omega)
      obtain ⟨c0, c1, c2⟩ := ev_cells (hc j e hx)
      have hj0 : (0 : Int) ≤ j := by omega
      have hj1 : (j : Int) < l.length := by omega
      have HX := Lib.hid hx
      clear hx hc
      by_cases hm : e.is (x, y) back
      · have R := Lib.hid (when_hit HX.out hm NE.out)
        obtain ⟨h1, h2, h3⟩ := hm
        have b1 : (e.thread == x) = true := by simpa using h1
        have b2 : (e.index == y) = true := by simpa using h2
        have b3 : (e.ret == back) = true := by simpa using h3
        clear h1 h2 h3
        go_wp2_with fail
        go_quiet (fail)
        go_wp2_with fail
        go_ret
        exact ⟨by rw [R.out]; rfl, (below_drewN BE.out _)⟩
      · have NX : Hid (∀ k z, k < j + 1 → l[k]? = some z → ¬ z.is (x, y) back) := fun k z hk hz => by
          by_cases hkj : k = j
          · subst hkj
            rw [HX.out] at hz
            obtain rfl := Option.some.inj hz
            exact hm
          · exact NE.out k z (by omega) hz
        have h3 : (e.thread == x) = false ∨ ((e.thread == x) = true ∧ (e.index == y) = false) ∨ ((e.thread == x) = true ∧ (e.index == y) = true ∧ (e.ret == back) = false) := by
          unfold EvD.is at hm
          by_cases h1 : e.thread = x
          · by_cases h2 : e.index = y
            · exact Or.inr (Or.inr ⟨by simpa using h1, by simpa using h2, by simpa using fun h3 => hm ⟨h1, h2, h3⟩⟩)
            · exact Or.inr (Or.inl ⟨by simpa using h1, by simpa using h2⟩)
          · exact Or.inl (by simpa using h1)
        clear hm
        rcases h3 with b1 | ⟨b1, b2⟩ | ⟨b1, b2, b3⟩
        all_goals
          go_wp2_with fail
          go_quiet (fail)
          go_wp2_with fail
          go_roundw
          case rel => exact ⟨⟨j + 1, by omega, by go_num, NX.out⟩, (below_drewN BR.out _)⟩
          case measure => simp [intOf]; omega
    · obtain rfl : j = l.length := by omega
      have R := Lib.hid (when_miss NE.out)
      go_wp2_with fail
      go_ret
      exact ⟨by rw [R.out]; rfl, BE.out⟩
end Go.Proofs.YtbmoehndnbbhcaaGreatDoor
