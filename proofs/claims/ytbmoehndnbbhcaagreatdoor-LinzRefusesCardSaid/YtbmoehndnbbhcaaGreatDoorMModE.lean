/- The walks of package model: Apply, clear. Printed by mkapply.py. The walks of package model, fifth part: ordered. -/
import Derived.Test.YtbmoehndnbbhcaaGreatDoorMApB
import Derived.Test.YtbmoehndnbbhcaaGreatDoorMAbs
import Derived.Test.YtbmoehndnbbhcaaGreatDoorMFamB
import Derived.OwnWalk
import Derived.Deep.LoopGhost
import Derived.Maps.Own
import Derived.Maps.OwnSet
namespace Go.Proofs.YtbmoehndnbbhcaaGreatDoor
set_option linter.unusedVariables false
set_option linter.unusedSimpArgs false
open Go.RowKit Go.MapKept
theorem clear_all {κ β : Type} [DecidableEq κ] {P : Program} {w : World} {r : Nat} {d : TypeDesc} {kk : κ → Value} {f : β → Value} {L : List (κ × β)} {mt kt et : TypeId} (hm : P.underlying mt = some (.map kt et)) (h : MapIs w r d kk f L) :
    ∃ o, (∀ ty, (Builtin.clear_ #[mt] ty #[.map (some r)]).run P w = .ok (.tuple #[]) (ChangeMaps.setBlock w r o)) ∧ MapIs (ChangeMaps.setBlock w r o) r d kk f ([] : List (κ × β)) := by
  obtain ⟨es, clock, hb, hs, hk, hL⟩ := h
  refine ⟨.map #[] clock, ?_, ?_⟩
  · intro ty
    simp [Builtin.clear_, run_underlying hm, MapKept.run_getObj_map hb, run_setObj_map _ hb, Result.andThen, ChangeMaps.setBlock]
  · exact ⟨_, _, (heap_set hb).1, stamped_empty _, by simp, by simp⟩
set_option maxRecDepth 100000 in
set_option maxHeartbeats 2000000 in
theorem apply_clear (w : World) (bf bm bi : Nat) (F : FamD) (t i : Int) (o : OpD) (h : FamIs w bf bm bi F) (hk : o.key.size ≤ maxLen) (hz : refusalD F t i o = 0) (d : MapD) (hm : alook F.maps o.handle = some d) (hkd : o.kind = 10) :
    Calls Tryz.prog 21 #[.pointer (some ⟨bf, 0, none⟩), .int .i64 t, .int .i64 i, o.val] w fun e w' => e = .returned (.agg (ResD.cells { found := true })) ∧ FamIs w' bf bm bi { F with maps := aset F.maps o.handle { d with vals := [] } } ∧ Only (F.own bf bm bi) w w' := by
  obtain ⟨kind, handle, key, value, expect⟩ := o
  simp only [OpD.val] at *
  obtain ⟨x, y, hl, hxy⟩ := h.look_some handle
  obtain ⟨rfl, rfl⟩ := hxy d hm
  have hlf := h.lt (k := bf) (Or.inl rfl)
  have hlm := h.lt (k := bm) (Or.inr (Or.inl rfl))
  have hli := h.lt (k := bi) (Or.inr (Or.inr (Or.inl rfl)))
  obtain ⟨c0, c1, c2⟩ := h.cell
  have HH := Lib.hid h
  have HZ := Lib.hid hz
  have HM := Lib.hid hm
  have hd := drew_heap
  have HK := Lib.hid hkd
  clear h hz hm hxy hkd
  go_enter Tryz.func21, Tryz.ntmps21
  go_upto_region 5 with (first | (go_at_call 41; (refine (refusal_zero _ bf bm bi F t i ⟨kind, handle, key, value, expect⟩ (HH.out.below ?hb) hk HZ.out).mono ?_); (case hb => exact ((Below.refl _ _).alloc (Nat.le_refl _) _).alloc (by simp) _); rintro e w1 ⟨rfl, hg⟩; (have R0 : w1.heap[w.heap.size]? = some (.cells (opC ⟨kind, handle, key, value, expect⟩) 60 (0, 0)) := (hg.block w.heap.size (by simp <;> omega)).trans (two_blocks w _ _).1); (have R1 : w1.heap[w.heap.size + 1]? = some (.cells (ResD.cells {}) 45 (0, 0)) := (hg.block (w.heap.size + 1) (by simp <;> omega)).trans (two_blocks w _ _).2); (have BW : Below w.heap.size w w1 := (((Below.refl _ _).alloc (Nat.le_refl _) _).alloc (by simp) _).trans (hg.mono (by simp <;> omega))); (have u0 : ∀ j : Nat, w1.cell? ⟨w.heap.size, j, none⟩ = (opC ⟨kind, handle, key, value, expect⟩)[j]? := fun j => blk_cell R0 j); simp only [opC] at u0; (have u1 : w1.heap[bm]? = w.heap[bm]? := BW.block bm hlm); (have u2 : ∀ j : Nat, w1.cell? ⟨bf, j, none⟩ = w.cell? ⟨bf, j, none⟩ := fun j => World.cell?_of_block (BW.block bf hlf)); (have u3 : w.heap.size < w1.heap.size := by (have := (Array.getElem?_eq_some_iff.1 R1).1; omega)); (have u4 := blocks_alloc (w := w1) (b := bm) (by omega)); (have v0 : bf < w1.heap.size := by omega); obtain ⟨u5, u6, u7⟩ := u4; have R0 := Lib.hid R0; have R1 := Lib.hid R1; have BW := Lib.hid BW; clear hg) | (go_at_call 36; refine (number_any _ _ _).mono ?_; rintro e w' ⟨rfl, rfl⟩))
  go_cut [11] (fun s11 wx => ApMid w ⟨kind, handle, key, value, expect⟩ (some d.ref) d.ro s11 wx)
  case first =>
    go_region
    go_wp2_with fail
    go_meet
    exact apmid R0.out R1.out BW.out
  case rest =>
    obtain ⟨g, rfl, m1, m2, m3, m4, m5⟩ := hcut
    have n0 : ∀ j : Nat, wc.cell? ⟨w.heap.size, j, none⟩ = (opC ⟨kind, handle, key, value, expect⟩)[j]? := fun j => blk_cell m3 j
    have n1 : ∀ j : Nat, wc.cell? ⟨g, j, none⟩ = (#[Value.map (some d.ref), Value.bool d.ro])[j]? := fun j => blk_cell m1 j
    simp only [opC] at n0
    have hv := (HH.out.vals _ (alook_mem HM.out))
    have hlr : d.ref < w.heap.size := hv.lt
    have HV := Lib.hid (hv.of_block (m5.block _ hv.lt))
    have M4 := Lib.hid m4
    have M5 := Lib.hid m5
    obtain ⟨ob, hrun, hmi⟩ := clear_all (P := Tryz.prog) Tryz.underlying97 HV.out
    have hT := Turned.mk' (w := wc) d.ref ob
    generalize ChangeMaps.setBlock wc d.ref ob = w8 at hrun hmi hT
    have q8 : w8.heap[w.heap.size + 1]? = some (.cells (ResD.cells {}) 45 (0, 0)) := (hT.block _ (by omega)).trans m4
    have yc : ∀ j : Nat, w8.cell? ⟨w.heap.size + 1, j, none⟩ = (ResD.cells {})[j]? := fun j => blk_cell q8 j
    have yf : ∀ j : Nat, w8.frozen? ⟨w.heap.size + 1, j, none⟩ = false := fun j => by simp [World.frozen?, q8]
    simp only [ResD.cells] at yc
    have FIN := Lib.hid (And.intro hmi hT)
    clear hmi hT q8
    clear hv m1 m3 m4 m5 c0 c1 c2 hl
    have hkd := HK.out
    clear HK
    subst hkd
    go_wp2_with fail
    refine bodyPost_ret (v := .agg (ResD.cells { found := true })) ?hres rfl ⟨rfl, ?_, ?_⟩
    case hres => simp [results, Tryz.results21, go_sem, ResD.cells, yc]
    · obtain ⟨hmi, hT⟩ := FIN.out
      refine HH.out.set_vals HM.out (fun k hk hne => ?_) ?_
      · iterate 8 (rw [Below.heap_setCell _ _ _ k (by show k ≠ w.heap.size + 1; omega)])
        exact (hT.block k hne).trans (M5.out.block k hk)
      · iterate 8 (refine MapIs.setAt ?_ (by omega) _)
        exact hmi
    · obtain ⟨hmi, hT⟩ := FIN.out
      iterate 8 (refine Only.setAt ?_ (by omega) _)
      exact (Only.of_below M5.out).turned hT (Or.inl (Or.inr (Or.inr (Or.inr ⟨_, alook_mem HM.out, rfl⟩))))
end Go.Proofs.YtbmoehndnbbhcaaGreatDoor
namespace Go.Proofs.YtbmoehndnbbhcaaGreatDoor
set_option linter.unusedVariables false
set_option linter.unusedSimpArgs false
open Go.RowKit Go.MapKept
/-- the pair of an entry -/
def kvOf (e : MapEntry) : ByteArray × Int := (match e.key with | .string k => k | _ => ⟨#[]⟩, match e.val with | .int _ v => v | _ => 0)
theorem vals_entries {w : World} {r : Nat} {L : List (ByteArray × Int)} (h : ValsIs w r L) :
    ∃ es clock, w.heap[r]? = some (.map es clock) ∧ Stamped es clock ∧ es.toList.map kvOf = L ∧ ∀ e ∈ es.toList, e.key = .string (kvOf e).1 ∧ e.val = .int .u64 (kvOf e).2 := by
  obtain ⟨es, clock, hb, hs, hk, hL⟩ := h
  have hm : ∀ e ∈ es.toList, ∃ p ∈ L, e.key = .string p.1 ∧ e.val = .int .u64 p.2 := by
    intro e he
    have : (e.key, e.val) ∈ L.map (fun p => (Value.string p.1, Value.int .u64 p.2)) := hL ▸ List.mem_map.2 ⟨e, he, rfl⟩
    obtain ⟨p, hp, hpe⟩ := List.mem_map.1 this
    simp only [Prod.mk.injEq] at hpe
    exact ⟨p, hp, hpe.1.symm, hpe.2.symm⟩
  refine ⟨es, clock, hb, hs, ?_, ?_⟩
  · have h2 := congrArg (List.map fun q : Value × Value => ((match q.1 with | .string k => k | _ => ⟨#[]⟩, match q.2 with | .int _ v => v | _ => 0) : ByteArray × Int)) hL
    rw [List.map_map, List.map_map] at h2
    have e1 : (fun q : Value × Value => ((match q.1 with | .string k => k | _ => ⟨#[]⟩, match q.2 with | .int _ v => v | _ => 0) : ByteArray × Int)) ∘ (fun e : MapEntry => (e.key, e.val)) = kvOf := rfl
    have e2 : (fun q : Value × Value => ((match q.1 with | .string k => k | _ => ⟨#[]⟩, match q.2 with | .int _ v => v | _ => 0) : ByteArray × Int)) ∘ (fun p : ByteArray × Int => (Value.string p.1, Value.int .u64 p.2)) = id := by funext p; rfl
    rw [e1, e2, List.map_id] at h2
    exact h2
  · intro e he
    obtain ⟨p, _, h1, h2⟩ := hm e he
    unfold kvOf
    rw [h1, h2]
    exact ⟨rfl, rfl⟩
theorem perm_strike {l : List MapEntry} (hn : (l.map (·.born)).Nodup) {e : MapEntry} (he : e ∈ l) : (e :: l.filter (fun x => x.born != e.born)).Perm l := by
  induction l with
  | nil => simp at he
  | cons a t ih =>
    simp only [List.map_cons, List.nodup_cons] at hn
    by_cases hb : a.born = e.born
    · have hae : a = e := by
        rcases List.mem_cons.1 he with h | h
        · exact h.symm
        · exact absurd (hb ▸ List.mem_map.2 ⟨e, h, rfl⟩) hn.1
      subst hae
      have : (a :: t).filter (fun x => x.born != a.born) = t := by
        rw [List.filter_cons]
        simp only [bne_self_eq_false, Bool.false_eq_true, if_false]
        refine List.filter_eq_self.2 fun x hx => ?_
        simp only [bne_iff_ne]
        intro h
        exact hn.1 (h ▸ List.mem_map.2 ⟨x, hx, rfl⟩)
      rw [this]
    · have het : e ∈ t := by
        rcases List.mem_cons.1 he with h | h
        · exact absurd (h ▸ rfl) hb
        · exact h
      rw [List.filter_cons]
      have : (a.born != e.born) = true := by simp [hb]
      rw [if_pos this]
      exact (List.Perm.swap a e _).trans ((ih hn.2 het).cons a)
theorem hashed_info : (Tryz.prog.info? 150).map (fun i => (i.zero, i.size, i.bytes)) = some (some (.agg #[.int .u64 0, .string ⟨#[]⟩, .int .u64 0]), 3, 32) := by kernel_rfl
theorem pair_info : (Tryz.prog.info? 122).map (fun i => (i.zero, i.size, i.bytes)) = some (some (.agg #[.string ⟨#[]⟩, .int .u64 0]), 2, 24) := by kernel_rfl
theorem made_facts {w w1 : World} {r bf : Nat} {es : Array MapEntry} {clock : Nat} {ro : Bool} {m : Int} (hb : w.heap[r]? = some (.map es clock)) (hlr : r < w.heap.size) (hlf : bf < w.heap.size) (hc0 : w.cell? ⟨bf, 0, none⟩ = some (.int .u64 m))
    (hg : (w.alloc (.cells #[.map (some r), .bool ro] 99)).grownBy w1 none) :
    w1.cell? ⟨w.heap.size, 0, none⟩ = some (.map (some r)) ∧ w1.heap[r]? = some (.map es clock) ∧
    (Instr.range 97 (.map (some r))).run Tryz.prog w1 = .ok (.pointer (some ⟨w1.heap.size, 0, none⟩)) (w1.alloc (.mapIter (some r) clock #[] clock)) ∧
    w1.cell? ⟨bf, 0, none⟩ = some (.int .u64 m) ∧ Below w.heap.size w w1 := by
  have e1 : ∀ k, k < w.heap.size → w1.heap[k]? = w.heap[k]? := fun k hk => (hg.block k (by simp; omega) (by simp)).trans (Below.heap_alloc w _ k hk)
  have hb1 : w1.heap[r]? = some (.map es clock) := (e1 r hlr).trans hb
  refine ⟨?_, hb1, ?_, (World.cell?_of_block (e1 bf hlf)).trans hc0, ⟨hg.os, hg.tape, hg.output, ?_, e1⟩⟩
  · have h2 := hg.block w.heap.size (by simp) (by simp)
    rw [(heap_alloc w _).1] at h2
    simp [World.cell?, h2]
  · simp [Instr.range, run_underlying Tryz.underlying97, MapKept.run_getObj_map hb1, Result.andThen, go_sem]
  · have := hg.size
    simp at this
    omega
theorem new3_cells (w : World) (a b c : Value) (T : TypeId) : ∀ j u, [a, b, c][j]? = some u → (w.alloc (.cells #[a, b, c] T)).cell? ((⟨w.heap.size, 0, none⟩ : Addr).add j) = some u := by
  intro j u hu
  have hb := (heap_alloc w (.cells #[a, b, c] T)).1
  have hc : ∀ i : Nat, (w.alloc (.cells #[a, b, c] T)).cell? ⟨w.heap.size, i, none⟩ = [a, b, c][i]? := by
    intro i
    unfold World.cell?
    rw [hb]
    simp
  have ha : ((⟨w.heap.size, 0, none⟩ : Addr).add j) = ⟨w.heap.size, j, none⟩ := by
    unfold Addr.add
    split
    · subst j; rfl
    · simp
  rw [ha, hc, hu]
theorem one3_cells (a : Int) (b : ByteArray) (c : Int) : ∀ u ∈ [Value.int .u64 a, .string b, .int .u64 c], u.oneCell' = true := by
  intro u hu
  simp at hu
  rcases hu with rfl | rfl | rfl <;> rfl
def pairV (p : ByteArray × Int) : List Value := [.string p.1, .int .u64 p.2]
theorem flat_at {α : Type} (f : α → List Value) (k : Nat) (hf : ∀ x, (f x).length = k) : ∀ (l : List α) (j t : Nat) (x : α), l[j]? = some x → t < k → (l.flatMap f)[j * k + t]? = (f x)[t]? := by
  intro l
  induction l with
  | nil => intro j t x h _; simp at h
  | cons a r ih =>
    intro j t x h ht
    rw [List.flatMap_cons]
    cases j with
    | zero =>
      simp only [List.getElem?_cons_zero, Option.some.injEq] at h
      subst h
      rw [Nat.zero_mul, Nat.zero_add, List.getElem?_append_left (by rw [hf]; exact ht)]
    | succ j =>
      simp only [List.getElem?_cons_succ] at h
      rw [List.getElem?_append_right (by rw [hf, Nat.succ_mul]; omega), hf, show (j + 1) * k + t - k = j * k + t by rw [Nat.succ_mul]; omega]
      exact ih j t x h ht
theorem flat_len {α : Type} (f : α → List Value) (k : Nat) (hf : ∀ x, (f x).length = k) (l : List α) : (l.flatMap f).length = l.length * k := by
  induction l with
  | nil => simp
  | cons a r ih => rw [List.flatMap_cons, List.length_append, hf, ih, List.length_cons, Nat.succ_mul]; omega
/-- what holds at every round of the copying loop -/
def CpRel (w : World) (gp n : Nat) (m : Int) (l : List (ByteArray × Int)) (k : Nat) (i : Value) (wr : World) : Prop :=
  ∃ (j : Nat) (cs : Array Value), k = n - j ∧ j ≤ n ∧ i = .int .i64 j ∧ wr.ownsRow w.heap.size 150 3 (.slice (some ⟨w.heap.size + 1, 0, none⟩) n n) n (l.flatMap (encP m)) ∧
    wr.heap[gp]? = some (.cells cs 122 (0, 0)) ∧ cs.size = n * 2 ∧ (∀ q x, q < j → l[q]? = some x → cs[q * 2]? = some (.string x.1) ∧ cs[q * 2 + 1]? = some (.int .u64 x.2)) ∧ Below w.heap.size w wr
/-- what the sort leaves -/
def SortSaid : Prop := ∀ (w : World) (base g cap : Nat) (m : Int) (l : List (ByteArray × Int)), w.ownsRow base 150 3 (.slice (some ⟨g, 0, none⟩) l.length cap) l.length (l.flatMap (encP m)) → l.length ≤ 1099511627776 →
  Calls Tryz.prog 75 #[.slice (some ⟨g, 0, none⟩) l.length cap, .func (.func 76) #[] #[]] w fun e w' => e = .returned (.tuple #[]) ∧
    ∃ l' : List (ByteArray × Int), l'.Perm l ∧ l'.Pairwise (fun a b => ltP m b a = false) ∧ w'.ownsRow base 150 3 (.slice (some ⟨g, 0, none⟩) l.length cap) l.length (l'.flatMap (encP m)) ∧ Only (· = g) w w'
theorem size_setCell (w : World) (p : Addr) (u : Value) : (w.setCell p u).heap.size = w.heap.size := by
  show (w.heap.modify _ _).size = _
  rw [Array.size_modify]
theorem owns_keep {w w' : World} {base : Nat} {e : TypeId} {size g n cap : Nat} {xs : List Value} (h : w.ownsRow base e size (.slice (some ⟨g, 0, none⟩) n cap) n xs) (hb : w'.heap[g]? = w.heap[g]?) : w'.ownsRow base e size (.slice (some ⟨g, 0, none⟩) n cap) n xs := by
  obtain ⟨o1, o2⟩ := h
  refine ⟨o1, ?_⟩
  rcases o2 with ⟨h1, _⟩ | ⟨g', cap', cur, h1, h2, h3, h4⟩
  · simp at h1
  · have hg : g = g' := by simp at h1; exact h1.1
    subst hg
    exact Or.inr ⟨g, cap', cur, h1, h2, hb.trans h3, h4⟩
theorem blk_set {w : World} {g : Nat} {t : TypeId} {cs : Array Value} (h : w.heap[g]? = some (.cells cs t (0, 0))) (i : Nat) (u : Value) : (w.setCell ⟨g, i, none⟩ u).heap[g]? = some (.cells (cs.setIfInBounds i u) t (0, 0)) := by
  simp [World.setCell, Array.getElem?_modify, h]
theorem flat_pairs {l : List (ByteArray × Int)} {n : Nat} {cs : Array Value} (hl : l.length = n) (hc : cs.size = n * 2) (hall : ∀ q x, q < n → l[q]? = some x → cs[q * 2]? = some (.string x.1) ∧ cs[q * 2 + 1]? = some (.int .u64 x.2)) : cs.toList = l.flatMap pairV := by
  apply List.ext_getElem?
  intro i
  by_cases hi : i < n * 2
  · have hq : i / 2 < l.length := by omega
    have hx : l[i / 2]? = some l[i / 2] := List.getElem?_eq_getElem hq
    have hh := hall (i / 2) _ (by omega) hx
    have hf := flat_at pairV 2 (fun _ => rfl) l (i / 2) (i % 2) _ hx (by omega)
    rw [show i / 2 * 2 + i % 2 = i by omega] at hf
    rw [hf, Array.getElem?_toList]
    rcases Nat.mod_two_eq_zero_or_one i with h0 | h0
    · rw [h0]
      have := hh.1
      rw [show i / 2 * 2 = i by omega] at this
      rw [this]; rfl
    · rw [h0]
      have := hh.2
      rw [show i / 2 * 2 + 1 = i by omega] at this
      rw [this]; rfl
  · rw [List.getElem?_eq_none (by rw [Array.length_toList]; omega), List.getElem?_eq_none (by rw [flat_len pairV 2 (fun _ => rfl)]; omega)]
/-- what ordered leaves -/
def OrderedPost (w : World) (L : List (ByteArray × Int)) (m : Int) (e : Ending) (w' : World) : Prop :=
  ∃ (g : Nat) (l : List (ByteArray × Int)), e = .returned (.slice (some ⟨g, 0, none⟩) L.length L.length) ∧ l.Perm L ∧ l.Pairwise (fun a b => ltP m b a = false) ∧
    w'.ownsRow w.heap.size 122 2 (.slice (some ⟨g, 0, none⟩) L.length L.length) L.length (l.flatMap pairV) ∧ Below w.heap.size w w'
/-- what holds at every round of the collecting loop -/
def OrdRel (w : World) (bf r it : Nat) (m : Int) (es : Array MapEntry) (clock n k : Nat) (v : Value) (wr : World) : Prop :=
  ∃ (done rem : List MapEntry), k = rem.length ∧ (done ++ rem).Perm es.toList ∧ IterIs wr it r es clock rem ∧ v = .slice (some ⟨w.heap.size + 1, 0, none⟩) done.length n ∧
    wr.ownsRow w.heap.size 150 3 (.slice (some ⟨w.heap.size + 1, 0, none⟩) done.length n) done.length (done.flatMap fun e => encP m (kvOf e)) ∧
    wr.cell? ⟨bf, 0, none⟩ = some (.int .u64 m) ∧ Below w.heap.size w wr ∧ done.length + rem.length = n
set_option maxRecDepth 100000 in
set_option maxHeartbeats 1000000 in
theorem ordered_of (hsort : SortSaid) (w : World) (bf : Nat) (m : Int) (d : MapD) (hlf : bf < w.heap.size) (hc0 : w.cell? ⟨bf, 0, none⟩ = some (.int .u64 m)) (m0 : 0 ≤ m) (m1 : m ≤ 18446744073709551615)
    (h : ValsIs w d.ref d.vals) (hks : ∀ p ∈ d.vals, p.1.size ≤ 64) (hn : d.vals.length ≤ 1099511627776) :
    Calls Tryz.prog 64 #[.pointer (some ⟨bf, 0, none⟩), mapV d] w fun e w' => OrderedPost w d.vals m e w' := by
  obtain ⟨i0, hi, hz0, hz1, hz2⟩ := info_parts hashed_info
  obtain ⟨i1, hj, hy0, hy1, hy2⟩ := info_parts pair_info
  have hlr := h.lt
  obtain ⟨es, clock, hb, hst, hkv, hen⟩ := vals_entries h
  have hlen := fun (W : World) (hW : W.heap[d.ref]? = w.heap[d.ref]?) ty => MapIs.len (P := Tryz.prog) Tryz.underlying97 (h.of_block hW) ty
  obtain ⟨a1, a2, a3⟩ := blocks_alloc hlr
  obtain ⟨r, L, ro⟩ := d
  simp only [mapV] at *
  have KV := Lib.hid hkv
  have EN := Lib.hid hen
  have ST := Lib.hid hst
  have HB := Lib.hid hb
  have HKS := Lib.hid hks
  clear h hkv hen hst hb hks
  go_enter Tryz.func64, Tryz.ntmps64
  go_wp2_with (at_make; refine wpList_make_own _ rfl _ _ 147 rfl w.heap.size 150 i0 _ 3 Tryz.underlying147 hi hz0 hz1 _ _ _ L.length rfl rfl (by omega) (by rw [hz2]; omega) (by unfold maxLen; omega) (by simp) ?_; intro w1 hown1 hg1; have hx := made_facts HB.out hlr hlf hc0 hg1; obtain ⟨x1, x2, x3, x4, x5⟩ := hx; have HB1 := Lib.hid x2; have BB1 := Lib.hid x5; have OW1 := Lib.hid hown1; clear x2 x5 hg1 hown1)
  have hit : w.heap.size + 1 < w1.heap.size := by
    rcases OW1.out.2 with ⟨h1, _⟩ | ⟨g, cap, cur, h1, _, h2, _⟩
    · simp at h1
    · simp at h1
      have := (Array.getElem?_eq_some_iff.1 h2).1
      omega
  go_loopg [5] L.length (fun k v wr => OrdRel w bf r w1.heap.size m es clock L.length k v wr)
  case atStart =>
    refine ⟨[], es.toList, ?_, by simp, IterIs.start HB1.out ST.out, rfl, ?_, ?_, BB1.out.alloc (by omega) _, by simp; rw [← KV.out]; simp⟩
    · rw [← KV.out]; simp
    · have := OW1.out.alloc (.mapIter (some r) clock #[] clock)
      simpa using this
    · rw [World.cell?_of_block (Below.heap_alloc w1 _ bf (by omega))]; exact x4
  case round =>
    clear x1 x3 x4 OW1 HB1 BB1 a1 a2 a3 hlen
    obtain ⟨done, rem, hk, hperm, hiter, rfl, hown, hcm, hbw, hdn⟩ := hrel
    have hbd : (es.toList.map (·.born)).Nodup := ST.out.2.1
    rcases hiter.next (P := Tryz.prog) 0 with ⟨hnil, hrun⟩ | ⟨e, w3, he, hrun, hent, hit3, ht3⟩
    · subst hnil
      have hdl : done.length = L.length := by simpa using hdn
      have hpl : (done.map kvOf).Perm L := by
        have := hperm.map kvOf
        rw [List.append_nil, KV.out] at this
        exact this
      have hs := hsort wr w.heap.size (w.heap.size + 1) L.length m (done.map kvOf) (by rw [List.length_map, List.flatMap_map]; exact hown) (by rw [List.length_map]; omega)
      rw [List.length_map, hdl] at hs
      have HS := Lib.hid hs
      have PL := Lib.hid hpl
      have BW := Lib.hid hbw
      clear hiter hperm hown hbw hk hdn hbd hs hpl hcm
      go_wp2_with fail
      refine HS.out.mono ?_
      rintro e w5 ⟨rfl, l, hl1, hl2, hl3, hl4⟩
      have hll : l.length = L.length := (hl1.trans PL.out).length_eq
      have SO := Lib.hid (And.intro (hl1.trans PL.out) hl2)
      have O5 := Lib.hid hl3
      have B5 : Hid (Below w.heap.size w w5) := BW.out.trans (hl4.below BW.out.size (fun i hi => by omega))
      have LL := Lib.hid hll
      clear HS PL BW hl1 hl2 hl3 hl4 hll
      go_wp2_with (at_make; refine wpList_make_full _ rfl _ _ 114 rfl w.heap.size 122 i1 _ 2 Tryz.underlying114 hj hy0 hy1 _ _ _ _ L.length rfl rfl (by omega) (by omega) (by rw [hy2]; omega) (by unfold maxLen; omega) B5.out.size ?_; intro w6 hown6 hg6; have O6 := Lib.hid hown6; have G6 := Lib.hid hg6; clear hown6 hg6)
      have hgp : w.heap.size + 1 < w5.heap.size := by
        rcases O5.out.2 with ⟨h1, _⟩ | ⟨g, cap, cur, h1, _, h2, _⟩
        · simp at h1
        · simp at h1
          have := (Array.getElem?_eq_some_iff.1 h2).1
          omega
      go_loopg [43] L.length (fun k i wr => CpRel w w5.heap.size L.length m l k i wr)
      case atStart =>
        have h6 := O6.out.2
        have g6 := G6.out
        rcases h6 with ⟨h1, _⟩ | ⟨g, cap, cur, h1, _, h2, h3, h4, h5, h7⟩
        · simp at h1
        · simp at h1
          obtain ⟨rfl, rfl⟩ := h1
          refine ⟨0, cur, by omega, Nat.zero_le _, rfl, ?_, h2, h5, fun q x hq => by omega, B5.out.grown g6 B5.out.size (by simp)⟩
          exact O5.out.kept g6 (Or.inr (by simp [Value.ownBlock]))
      case round =>
        obtain ⟨j, cs, hk, hj1, rfl, hown, hbg, hcs, hall, hbw⟩ := hrel
        by_cases hjn : j < L.length
        · have hjl : j < l.length := by rw [LL.out]; exact hjn
          have hx : l[j]? = some l[j] := List.getElem?_eq_getElem hjl
          have f0 := flat_at (encP m) 3 (fun _ => rfl) l j 0 _ hx (by omega)
          have f1 := flat_at (encP m) 3 (fun _ => rfl) l j 1 _ hx (by omega)
          have f2 := flat_at (encP m) 3 (fun _ => rfl) l j 2 _ hx (by omega)
          generalize l[j] = x at *
          have hcl := hown.cells (g := w.heap.size + 1) rfl
          have c0 := hcl _ _ f0
          have c1 := hcl _ _ f1
          have c2 := hcl _ _ f2
          rw [addr_at] at c0 c1 c2
          replace c0 : wr.cell? ⟨w.heap.size + 1, j * 3, none⟩ = some (.int .u64 (hashM x.1.data.toList m)) := c0
          have hq0 : cs[j * 2]? = some cs[j * 2] := Array.getElem?_eq_getElem (by omega)
          have hq1 : cs[j * 2 + 1]? = some cs[j * 2 + 1] := Array.getElem?_eq_getElem (by omega)
          have d0 : wr.cell? ⟨w5.heap.size, j * 2, none⟩ = some cs[j * 2] := by rw [blk_cell hbg]; exact hq0
          have d1 : wr.cell? ⟨w5.heap.size, j * 2 + 1, none⟩ = some cs[j * 2 + 1] := by rw [blk_cell hbg]; exact hq1
          have z0 : wr.frozen? ⟨w5.heap.size, j * 2, none⟩ = false := by simp [World.frozen?, hbg]
          have z1 : wr.frozen? ⟨w5.heap.size, j * 2 + 1, none⟩ = false := by simp [World.frozen?, hbg]
          have hlg : w5.heap.size < wr.heap.size := (Array.getElem?_eq_some_iff.1 hbg).1
          have OWN := Lib.hid hown
          have HBG := Lib.hid (And.intro hbg (And.intro hcs hall))
          have BWN := Lib.hid hbw
          have HK := Lib.hid hk
          have HX := Lib.hid hx
          generalize cs[j * 2] = v0 at *
          generalize cs[j * 2 + 1] = v1 at *
          clear hcl f0 f1 f2 hq0 hq1 hown hbg hcs hall hbw hk hx hdl hrun
          clear HB ST EN KV HKS
          go_wp2_with fail
          go_roundg (L.length - (j + 1))
          case measure => rw [HK.out]; omega
          case rel =>
            obtain ⟨hbg, hcs, hall⟩ := HBG.out
            have hw2 : ∀ k, k ≠ w5.heap.size → k < wr.heap.size → (((wr.setCell ⟨w5.heap.size, j * 2, none⟩ (.string x.1)).setCell ⟨w5.heap.size, j * 2 + 1, none⟩ (.int .u64 x.2)).alloc (.cells #[.int .u64 (hashM x.1.data.toList m), .string x.1, .int .u64 x.2] 150)).heap[k]? = wr.heap[k]? := by
              intro k hk hk2
              rw [Below.heap_alloc _ _ _ (by rw [size_setCell, size_setCell]; exact hk2), Below.heap_setCell _ _ _ _ (by show k ≠ _; exact hk), Below.heap_setCell _ _ _ _ (by show k ≠ _; exact hk)]
            refine ⟨j + 1, (cs.setIfInBounds (j * 2) (.string x.1)).setIfInBounds (j * 2 + 1) (.int .u64 x.2), rfl, by omega, by go_num, ?_, ?_, by simp [hcs], ?_, ?_⟩
            · exact owns_keep OWN.out (hw2 _ (by omega) (by omega))
            · rw [Below.heap_alloc _ _ _ (by rw [size_setCell, size_setCell]; exact hlg)]
              exact blk_set (blk_set hbg _ _) _ _
            · intro q y hq hy
              by_cases hqj : q = j
              · subst hqj
                have hyx : y = x := by rw [HX.out] at hy; exact (Option.some.inj hy).symm
                subst hyx
                constructor
                · rw [Array.getElem?_setIfInBounds_ne (by omega), Array.getElem?_setIfInBounds_self_of_lt (by omega)]
                · rw [Array.getElem?_setIfInBounds_self_of_lt (by rw [Array.size_setIfInBounds]; omega)]
              · have := hall q y (by omega) hy
                constructor
                · rw [Array.getElem?_setIfInBounds_ne (by omega), Array.getElem?_setIfInBounds_ne (by omega)]; exact this.1
                · rw [Array.getElem?_setIfInBounds_ne (by omega), Array.getElem?_setIfInBounds_ne (by omega)]; exact this.2
            · refine Below.alloc ?_ (by rw [size_setCell, size_setCell]; exact BWN.out.size) _
              exact (BWN.out.setCell (by show w.heap.size ≤ w5.heap.size; omega) _).setCell (by show w.heap.size ≤ w5.heap.size; omega) _
        · have hje : j = L.length := by omega
          subst hje
          have FIN := Lib.hid (And.intro hbg (And.intro hcs (And.intro hall hbw)))
          clear hown hbg hcs hall hbw hk hdl hrun
          go_wp2_with fail
          go_ret
          obtain ⟨hbg, hcs, hall, hbw⟩ := FIN.out
          obtain ⟨s1, s2⟩ := SO.out
          refine ⟨w5.heap.size, l, rfl, s1, s2, ⟨by rw [flat_len pairV 2 (fun _ => rfl), LL.out], Or.inr ⟨w5.heap.size, L.length, cs, rfl, by omega, hbg, Nat.le_refl _, by unfold maxLen; omega, hcs, ?_⟩⟩, hbw⟩
          rw [List.take_of_length_le (by rw [Array.length_toList]; omega)]
          exact flat_pairs LL.out hcs hall
    · have hmem : e ∈ es.toList := hperm.subset (List.mem_append_right _ he)
      have hkv := EN.out e hmem
      have hks := HKS.out (kvOf e) (by rw [← KV.out]; exact List.mem_map.2 ⟨e, hmem, rfl⟩)
      rw [hkv.1, hkv.2] at hrun hent
      have hnd : (rem.map (·.born)).Nodup := by
        have := (hperm.map (·.born)).nodup_iff.2 hbd
        rw [List.map_append] at this
        exact (List.nodup_append.1 this).2.1
      have hps := perm_strike hnd he
      have hk2 : (kvOf e).1.size ≤ maxLen := by unfold maxLen; omega
      have hcm3 : w3.cell? ⟨bf, 0, none⟩ = some (.int .u64 m) := (ht3.cell bf 0 (by omega)).trans hcm
      have ho3 : w3.ownsRow w.heap.size 150 3 (.slice (some ⟨w.heap.size + 1, 0, none⟩) done.length L.length) done.length (done.flatMap fun e => encP m (kvOf e)) := by
        obtain ⟨o1, o2⟩ := hown
        refine ⟨o1, ?_⟩
        rcases o2 with ⟨h1, _⟩ | ⟨g, cap, cur, h1, h2, h3, h4⟩
        · simp at h1
        · have hg : g = w.heap.size + 1 := by simp at h1; omega
          exact Or.inr ⟨g, cap, cur, h1, h2, (ht3.block g (by omega)).trans h3, h4⟩
      have hb3 : Below w.heap.size w w3 := ⟨ht3.os.trans hbw.os, ht3.tape.trans hbw.tape, ht3.output.trans hbw.output, by rw [ht3.size]; exact hbw.size, fun k hk => (ht3.block k (by omega)).trans (hbw.block k hk)⟩
      have hsz3 : w1.heap.size < w3.heap.size := by
        obtain ⟨seen, q1, _⟩ := hit3
        exact (Array.getElem?_eq_some_iff.1 q1).1
      have hrl : rem.length = (rem.filter (fun x => x.born != e.born)).length + 1 := by rw [← hps.length_eq]; simp
      have DD := Lib.hid hdn
      have PP := Lib.hid (And.intro hperm hps)
      have OO := Lib.hid ho3
      have II := Lib.hid hit3
      have BB := Lib.hid hb3
      have KK := Lib.hid hk
      have RL := Lib.hid hrl
      have hlen3 : done.length < L.length := by omega
      clear hiter hperm hown hcm hbw hk hdn hbd hmem hkv hks hnd hps ho3 hit3 hb3 ht3 he hrl
      generalize hkk : (kvOf e).1 = key at *
      generalize hvv : (kvOf e).2 = val at *
      have KE := Lib.hid (And.intro hkk hvv)
      clear hkk hvv
      go_wp2_with (first | (go_at_call 74; refine (hash_any _ _ _ hk2 m0 m1).mono ?_; rintro e w' ⟨rfl, rfl⟩) | (at_builtin; (refine wpList_append_fits _ rfl _ _ 147 rfl w.heap.size 150 i0 3 Tryz.underlying147 hi hz1 (w.heap.size + 1) done.length L.length _ rfl (OO.out.alloc _) ⟨w3.heap.size, 0, none⟩ 1 1 [.int .u64 (hashM key.data.toList m), .string key, .int .u64 val] rfl rfl (new3_cells w3 _ _ _ _) (one3_cells _ _ _) (by omega) ?_); intro w4 hown4 hg4; have O4 := Lib.hid hown4; have G4 := Lib.hid hg4; clear hown4 hg4))
      go_roundg (rem.filter (fun x => x.born != e.born)).length
      case measure => rw [KK.out, RL.out]; omega
      case rel =>
        have hdl := DD.out
        have hrl := RL.out
        refine ⟨done ++ [e], _, rfl, ?_, ?_, ?_, ?_, ?_, ?_, ?_⟩
        · have := PP.out
          rw [List.append_assoc]
          exact (List.Perm.append_left done this.2).trans this.1
        · obtain ⟨seen, q1, q2, q3, q4⟩ := II.out
          refine ⟨seen, ?_, ?_, q3, q4⟩
          · rw [G4.out.block w1.heap.size (by simp; omega) (by simp; omega), Below.heap_alloc _ _ _ (by omega)]; exact q1
          · rw [G4.out.block r (by simp; omega) (by simp; omega), Below.heap_alloc _ _ _ (by omega)]; exact q2
        · simp
        · have h4 := O4.out
          simpa [encP, KE.out.1, KE.out.2] using h4
        · rw [World.cell?_of_block ((G4.out.block bf (by simp; omega) (by simp; omega)).trans (Below.heap_alloc _ _ _ (by omega)))]; exact hcm3
        · exact (BB.out.alloc (by omega) _).grown G4.out (by simp; omega) (fun k hk => by simp at hk; omega)
        · simp; omega
end Go.Proofs.YtbmoehndnbbhcaaGreatDoor
