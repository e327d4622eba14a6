/- The comparison of families: the reference's and the program's agree. No walk in sight. The walks of the reference's hash functions. The reference's family in memory: lists of pairs, of maps, of iterators that are read. -/
import Derived.Test.YtbmoehndnbbhcaaGreatDoorMRefR
import Derived.Test.YtbmoehndnbbhcaaGreatDoorProg
import Derived.Test.YtbmoehndnbbhcaaGreatDoorMOrder
import Derived.WalkKit
import Derived.WalkLawsBesides
import Derived.WalkSpells
import Derived.Outline
import Derived.Lib.Hide
import Derived.Deep.QuietTactic
import Derived.BigQuiet
namespace Go.Proofs.YtbmoehndnbbhcaaGreatDoor
set_option linter.unusedVariables false
set_option linter.unusedSimpArgs false
open Go.RowKit Go.MapKept
theorem all_of_enough {α : Type} (L M : List α) (hn : L.Nodup) (hs : ∀ x ∈ L, x ∈ M) (hl : M.length ≤ L.length) : ∀ x ∈ M, x ∈ L := by
  classical
  induction L generalizing M with
  | nil => intro x hx; have : M = [] := List.length_eq_zero_iff.1 (by simpa using hl); rw [this] at hx; simp at hx
  | cons a r ih =>
    have hn' := List.nodup_cons.1 hn
    have ha := hs a (by simp)
    have hlen := List.length_erase_of_mem ha
    have hpos := List.length_pos_of_mem ha
    have := ih (M.erase a) hn'.2 (fun x hx => (List.mem_erase_of_ne (show x ≠ a from fun e => hn'.1 (e ▸ hx))).2 (hs x (by simp [hx]))) (by rw [hlen]; simp at hl; omega)
    intro x hx
    by_cases e : x = a
    · simp [e]
    · exact List.mem_cons_of_mem _ (this x ((List.mem_erase_of_ne e).2 hx))
theorem nodup_of_keys {κ β : Type} {L : List (κ × β)} (hn : (L.map (·.1)).Nodup) : L.Nodup := by
  refine List.nodup_iff_pairwise_ne.2 ?_
  refine (List.pairwise_map.1 (List.nodup_iff_pairwise_ne.1 hn)).imp ?_
  intro a b h e
  exact h (by rw [e])
def valEq {κ β : Type} [DecidableEq κ] (eq : β → β → Bool) (M : List (κ × β)) (p : κ × β) : Bool :=
  match alook M p.1 with
  | none => false
  | some b => eq p.2 b
/-- two maps are equal, an equality of the values given -/
def mapsEqB {κ β : Type} [DecidableEq κ] (eq : β → β → Bool) (L M : List (κ × β)) : Bool :=
  L.length == M.length && L.all (valEq eq M)
theorem mapsEqB_perm {κ β : Type} [DecidableEq κ] {eq : β → β → Bool} (he : ∀ a b, eq a b = true ↔ a = b) {L M : List (κ × β)} (hL : (L.map (·.1)).Nodup) (hM : (M.map (·.1)).Nodup) : mapsEqB eq L M = true ↔ L.Perm M := by
  unfold mapsEqB
  rw [Bool.and_eq_true, beq_iff_eq, List.all_eq_true]
  constructor
  · rintro ⟨hl, hall⟩
    have hs : ∀ x ∈ L, x ∈ M := fun x hx => by
      have := hall x hx
      unfold valEq at this
      cases h : alook M x.1 with
      | none => rw [h] at this; simp at this
      | some b =>
        rw [h] at this
        have e := (he _ _).1 this
        have := alook_mem h
        rw [← e] at this
        exact this
    exact (List.perm_ext_iff_of_nodup (nodup_of_keys hL) (nodup_of_keys hM)).2 fun a => ⟨hs a, all_of_enough L M (nodup_of_keys hL) hs (by omega) a⟩
  · intro hp
    refine ⟨hp.length_eq, fun x hx => ?_⟩
    have : alook M x.1 = some x.2 := alook_some hM (hp.subset hx)
    unfold valEq
    rw [this]
    exact (he _ _).2 rfl
def itEq (a b : IterD) : Bool := a.thread == b.thread && (a.number == b.number && a.pos == b.pos)
theorem itEq_iff (a b : IterD) : itEq a b = true ↔ a = b := by
  cases a; cases b
  simp [itEq]
def intEq (a b : Int) : Bool := a == b
theorem intEq_iff (a b : Int) : intEq a b = true ↔ a = b := by simp [intEq]
/-- the program's comparison -/
def mapEqA (B : AFam) (p : Int × AMap) : Bool :=
  match alook B.maps p.1 with
  | none => false
  | some d => p.2.ro == d.ro && mapsEqB intEq p.2.vals d.vals
def eqA (A B : AFam) : Bool := A.mask == B.mask && (A.maps.length == B.maps.length && (mapsEqB itEq A.iters B.iters && A.maps.all (mapEqA B)))
/-- the reference's comparison -/
def mapEqR (h : RFam) (d : RMap) : Bool :=
  match findM h.maps d.num with
  | none => false
  | some p => d.ro == p.2.ro && decide (d.pairs = p.2.pairs)
def walkEqR (h : RFam) (d : Int × IterD) : Bool :=
  match findW h.walks d.1 with
  | none => false
  | some p => itEq d.2 p.2
def eqR (g h : RFam) : Bool := g.mask == h.mask && (g.maps.length == h.maps.length && (g.walks.length == h.walks.length && (g.maps.all (mapEqR h) && g.walks.all (walkEqR h))))
theorem bool_iff {a b : Bool} (h : a = true ↔ b = true) : a = b := by
  cases a <;> cases b <;> simp_all
theorem pairs_eqR {m : Int} {L M : PL} (hL : (L.map (·.1)).Nodup) (hM : (M.map (·.1)).Nodup) : decide (sortedOf m L = sortedOf m M) = mapsEqB intEq L M := by
  refine bool_iff ?_
  rw [decide_eq_true_iff, mapsEqB_perm intEq_iff hL hM]
  constructor
  · intro h
    exact (sortedOf_perm m L).symm.trans (h ▸ sortedOf_perm m M)
  · intro h
    exact ord_uniq (sortedOf_ord hL) (sortedOf_ord hM) ((sortedOf_perm m L).trans (h.trans (sortedOf_perm m M).symm))
theorem all_same {α : Type} (L : List α) (p q : α → Bool) (h : ∀ x ∈ L, p x = q x) : L.all p = L.all q := by
  induction L with
  | nil => rfl
  | cons a r ih => rw [List.all_cons, List.all_cons, h a (by simp), ih fun x hx => h x (by simp [hx])]
theorem eq_ref {A B : AFam} (hA : NdA A) (hB : NdA B) : eqR (refOf A) (refOf B) = eqA A B := by
  unfold eqR eqA
  by_cases hm : A.mask = B.mask
  · have h1 : (refOf A).maps.all (mapEqR (refOf B)) = A.maps.all (mapEqA B) := by
      show (A.maps.map (refM A.mask)).all _ = _
      rw [List.all_map]
      refine all_same _ _ _ fun p hp => ?_
      show mapEqR (refOf B) (refM A.mask p) = mapEqA B p
      unfold mapEqR mapEqA
      show (match findM (B.maps.map (refM B.mask)) p.1 with | none => false | some q => p.2.ro == q.2.ro && decide (sortedOf A.mask p.2.vals = q.2.pairs)) = _
      cases h : alook B.maps p.1 with
      | none => rw [findM_none h]
      | some d =>
        obtain ⟨i, _, hf⟩ := findM_some (m := B.mask) h
        rw [hf]
        show (p.2.ro == d.ro && decide (sortedOf A.mask p.2.vals = sortedOf B.mask d.vals)) = _
        rw [hm, pairs_eqR (hA.vals p hp) (hB.look h)]
    have h2 : (refOf A).walks.all (walkEqR (refOf B)) = A.iters.all (valEq itEq B.iters) := by
      refine all_same _ _ _ fun p hp => ?_
      unfold walkEqR valEq
      show (match findW B.iters p.1 with | none => false | some q => itEq p.2 q.2) = _
      cases h : alook B.iters p.1 with
      | none => rw [findW_none h]
      | some d =>
        obtain ⟨i, _, hf⟩ := findW_some h
        rw [hf]
    rw [h1, h2]
    have l1 : (refOf A).maps.length = A.maps.length := by simp [refOf]
    have l2 : (refOf B).maps.length = B.maps.length := by simp [refOf]
    rw [l1, l2]
    show (A.mask == B.mask && (_ && (A.iters.length == B.iters.length && _))) = _
    unfold mapsEqB
    ac_rfl
  · have e1 : ((refOf A).mask == (refOf B).mask) = false := by simpa [refOf] using hm
    have e2 : (A.mask == B.mask) = false := by simpa using hm
    rw [e1, e2]
    rfl
/-- a family is equal to its copy -/
theorem eqA_refl {A : AFam} (hA : NdA A) : eqA A A = true := by
  unfold eqA
  rw [(mapsEqB_perm itEq_iff hA.iters hA.iters).2 (List.Perm.refl _)]
  have : A.maps.all (mapEqA A) = true := List.all_eq_true.2 fun p hp => by
    unfold mapEqA
    rw [alook_some hA.maps (k := p.1) (v := p.2) hp]
    simp only [beq_self_eq_true, Bool.true_and]
    exact (mapsEqB_perm intEq_iff (hA.vals p hp) (hA.vals p hp)).2 (List.Perm.refl _)
  rw [this]
  simp
/-- the numbers of the maps and the iterators are from 0 on -/
structure PosA (A : AFam) : Prop where
  maps : ∀ p ∈ A.maps, 0 ≤ p.1
theorem PosA.apply {A : AFam} (h : PosA A) (t i : Int) (o : OpD) : PosA (applyA A t i o).1 := by
  by_cases hz : refusalA A t i o = 0
  · obtain ⟨k0, k1, k2, ht, h13, hd⟩ := refusal_none hz
    have set : ∀ n d, 0 ≤ n → PosA { A with maps := aset A.maps n d } := fun n d hn => ⟨fun p hp => by
      rcases aset_mem hp with rfl | hp
      · exact hn
      · exact h.maps p hp⟩
    by_cases hk : o.kind = 13
    · rw [applyA_next hz hk]
      unfold nextA
      split
      · exact h
      · split
        · exact h
        · split
          · exact h
          · exact ⟨h.maps⟩
    · obtain ⟨d, hd, hu⟩ := hd hk
      have hh : 0 ≤ o.handle := h.maps _ (alook_mem hd)
      rw [applyA_do hz hk hd]
      unfold doA
      split
      · exact set _ _ hh
      split
      · exact set _ _ hh
      split
      · exact h
      split
      · exact set _ _ k0
      split
      · exact set _ _ hh
      split
      · exact h
      · exact ⟨h.maps⟩
  · rw [applyA_err hz]; exact h
theorem PosA.none {A : AFam} (h : PosA A) : alook A.maps (-1) = none := alook_none fun p hp e => by have := h.maps p hp; omega
/-- what the reference's Contents answers -/
theorem contents_ref (A : AFam) (n : Int) : (match findM (refOf A).maps n with | none => none | some p => some (p.2.pairs, p.2.ro)) = (alook A.maps n).map (fun d => (sortedOf A.mask d.vals, d.ro)) := by
  show (match findM (A.maps.map (refM A.mask)) n with | none => none | some p => some (p.2.pairs, p.2.ro)) = _
  cases h : alook A.maps n with
  | none => rw [findM_none h]; rfl
  | some d =>
    obtain ⟨i, _, hf⟩ := findM_some (m := A.mask) h
    rw [hf]
    rfl
end Go.Proofs.YtbmoehndnbbhcaaGreatDoor
namespace Go.Proofs.YtbmoehndnbbhcaaGreatDoor
set_option linter.unusedVariables false
set_option linter.unusedSimpArgs false
open Go.RowKit
theorem hash_ref (s : ByteArray) (m : Int) (w : World) (hs : s.size ≤ maxLen) (h0 : 0 ≤ m) (h1 : m ≤ 18446744073709551615) :
    Calls Tryz.prog 79 #[.string s, .int .u64 m] w fun e w' => e = .returned (.int .u64 (hashM s.data.toList m)) ∧ w = w' := by
  unfold maxLen at hs
  go_enter Tryz.func79, Tryz.ntmps79
  go_wp2
  go_loop [5, 6] (fun n i => ∃ k : Nat, k ≤ s.size ∧ i = .int .i64 k ∧ n = .int .u64 (hashI (s.data.toList.take k))) (fun _ i => s.size - (intOf i).toNat)
  case atStart => exact ⟨0, Nat.zero_le _, rfl, rfl⟩
  case round =>
    obtain ⟨k, hk, rfl, rfl⟩ := hrel
    by_cases hlt : k < s.size
    · go_wp2
      go_round
      case rel => exact ⟨k + 1, by omega, by go_num, by rw [take_snoc s k hlt, ← hashI_step, u8wrap]⟩
      case measure => simp [intOf]; omega
    · go_wp2
      go_ret
      exact ⟨ret_int (by rw [List.take_of_length_le (by simp; omega), hash_mask _ _ h0 h1]), rfl⟩
theorem valid_ref (s : ByteArray) (w : World) (hs : s.size ≤ maxLen) :
    Calls Tryz.prog 65 #[.string s] w fun e w' => e = .returned (.bool (decide ((s.size : Int) ≤ 64))) ∧ w = w' := by
  unfold maxLen at hs
  go_enter Tryz.func65, Tryz.ntmps65
  go_wp2
  go_ret
  exact ⟨rfl, rfl⟩
theorem slice_ref (h l : Int) (w : World) (h0 : 0 ≤ h) (h1 : h ≤ 18446744073709551615) :
    Calls Tryz.prog 90 #[.int .u64 h, .int .i64 l] w fun e w' => e = .returned (.int .i64 (sl h l)) ∧ w = w' := by
  by_cases hl : l < 0 ∨ 11 ≤ l
  · have X := Lib.hid (sl_out h l hl)
    rcases hl with hl | hl
    · go_enter Tryz.func90, Tryz.ntmps90
      go_wp2
      go_ret
      exact ⟨ret_int X.out.symm, rfl⟩
    · have hl' : ¬ l < 0 := by omega
      go_enter Tryz.func90, Tryz.ntmps90
      go_wp2
      go_ret
      exact ⟨ret_int X.out.symm, rfl⟩
  · have l0 : 0 ≤ l := by omega
    have l1 : l < 11 := by omega
    have X := Lib.hid (sl_in h l l0 l1)
    clear hl
    go_enter Tryz.func90, Tryz.ntmps90
    go_wp2
    go_loop [0, 1] (fun n i => ∃ j : Int, 0 ≤ j ∧ j ≤ l ∧ i = .int .i64 j ∧ n = .int .u64 (dv h l j)) (fun _ i => (intOf i).toNat)
    case atStart => exact ⟨l, l0, Int.le_refl _, rfl, congrArg _ (dv_start h l h0)⟩
    case round =>
      obtain ⟨j, j0, j1, rfl, rfl⟩ := hrel
      have hb := dv_bd h l j h0 h1
      by_cases hlt : 0 < j
      · have Y := Lib.hid (dv_step h l j h0 hlt j1)
        go_wp2
        go_round
        case rel => exact ⟨j - 1, by omega, by omega, rfl, congrArg _ Y.out⟩
        case measure => simp [intOf]; omega
      · have Y := Lib.hid (dv_end h l j h0 h1 l0 l1 (by omega))
        go_wp2
        go_ret
        exact ⟨ret_int Y.out, rfl⟩
theorem less_ref (h k : Int) (a b : ByteArray) (w : World) (h0 : 0 ≤ h) (h1 : h ≤ 18446744073709551615) (k0 : 0 ≤ k) (k1 : k ≤ 18446744073709551615) :
    Calls Tryz.prog 80 #[.int .u64 h, .string a, .int .u64 k, .string b] w fun e w' => e = .returned (.bool (lessB h a.toList k b.toList)) ∧ w = w' := by
  go_enter Tryz.func80, Tryz.ntmps80
  go_wp2
  go_loop [9] (fun i => ∃ j : Nat, j ≤ 11 ∧ cm h k = (cmFrom h k (11 - j) j : Nat) ∧ i = .int .i64 j) (fun i => 11 - (intOf i).toNat)
  case atStart => exact ⟨0, by omega, rfl, rfl⟩
  case round =>
    obtain ⟨j, j1, jc, rfl⟩ := hrel
    have JC := Lib.hid jc
    clear jc
    by_cases hlt : j < 11
    · by_cases he : sl h j = sl k j
      · have HE := Lib.hid he
        have hb : (sl h j != sl k j) = false := by simp [he]
        clear he
        go_wp2_with (go_at_call 90; refine (slice_ref _ _ _ (by omega) (by omega)).mono ?_; rintro e w' ⟨rfl, rfl⟩)
        go_round
        case rel => exact ⟨j + 1, by omega, by rw [JC.out, show 11 - j = (11 - (j + 1)) + 1 by omega, cmFrom_eq h k _ _ HE.out], by go_num⟩
        case measure => simp [intOf]; omega
      · have HE := Lib.hid he
        have hb : (sl h j != sl k j) = true := by simp [he]
        clear he
        have C := Lib.hid (show cm h k = j by rw [JC.out, show 11 - j = (11 - (j + 1)) + 1 by omega, cmFrom_ne h k _ _ HE.out])
        go_wp2_with (go_at_call 90; refine (slice_ref _ _ _ (by omega) (by omega)).mono ?_; rintro e w' ⟨rfl, rfl⟩)
        go_ret
        exact ⟨ret_bool (by rw [lessB_in _ _ _ _ (by rw [C.out]; omega), C.out]), rfl⟩
    · have C := Lib.hid (show cm h k = 11 by rw [JC.out, show 11 - j = 0 by omega, show j = 11 by omega]; rfl)
      go_wp2_with fail
      go_ret
      exact ⟨ret_bool (by rw [lessB_out _ _ _ _ (by rw [C.out]; omega)]), rfl⟩
end Go.Proofs.YtbmoehndnbbhcaaGreatDoor
namespace Go.Proofs.YtbmoehndnbbhcaaGreatDoor
set_option linter.unusedVariables false
set_option linter.unusedSimpArgs false
open Go Go.RowKit Go.MapKept
/-- pairs in one block of a set -/
def PrAt (T : Nat → Prop) (w : World) (A : Option Addr) (l : PL) : Prop :=
  0 < l.length → ∃ b, A = some ⟨b, 0, none⟩ ∧ T b ∧ b < w.heap.size ∧ ∀ j x, l[j]? = some x → w.cell? ⟨b, j * 2, none⟩ = some (.string x.1) ∧ w.cell? ⟨b, j * 2 + 1, none⟩ = some (.int .u64 x.2)
def MapsAt (T : Nat → Prop) (w : World) (A : Option Addr) (ms : List RMap) : Prop :=
  0 < ms.length → ∃ b, A = some ⟨b, 0, none⟩ ∧ T b ∧ b < w.heap.size ∧ ∀ i d, ms[i]? = some d → ∃ u c, w.cell? ⟨b, i * 3, none⟩ = some (.int .i64 d.num) ∧ w.cell? ⟨b, i * 3 + 1, none⟩ = some (.bool d.ro) ∧ w.cell? ⟨b, i * 3 + 2, none⟩ = some (.slice u d.pairs.length c) ∧ PrAt T w u d.pairs
def WlkAt (T : Nat → Prop) (w : World) (A : Option Addr) (ws : List (Int × IterD)) : Prop :=
  0 < ws.length → ∃ b, A = some ⟨b, 0, none⟩ ∧ T b ∧ b < w.heap.size ∧ ∀ i d, ws[i]? = some d → w.cell? ⟨b, i * 4, none⟩ = some (.int .i64 d.1) ∧ w.cell? ⟨b, i * 4 + 1, none⟩ = some (.int .i64 d.2.thread) ∧ w.cell? ⟨b, i * 4 + 2, none⟩ = some (.int .i64 d.2.number) ∧ w.cell? ⟨b, i * 4 + 3, none⟩ = some (.int .i64 d.2.pos)
/-- bounds of a family -/
structure RFit (g : RFam) : Prop where
  m0 : 0 ≤ g.mask
  m1 : g.mask ≤ 18446744073709551615
  lm : g.maps.length ≤ 1048576
  lw : g.walks.length ≤ 1048576
  lp : ∀ d ∈ g.maps, d.pairs.length ≤ 1048576
  keys : ∀ d ∈ g.maps, ∀ x ∈ d.pairs, x.1.size ≤ 64
  pos : ∀ p ∈ g.walks, 0 ≤ p.2.pos ∧ p.2.pos ≤ 1048576
structure RFamAt (T : Nat → Prop) (w : World) (A D : Option Addr) (g : RFam) : Prop where
  maps : MapsAt T w A g.maps
  walks : WlkAt T w D g.walks
  fit : RFit g
/-- what lies in the set has not changed -/
structure Kept (T : Nat → Prop) (w w' : World) : Prop where
  size : w.heap.size ≤ w'.heap.size
  block : ∀ b, T b → b < w.heap.size → w'.heap[b]? = w.heap[b]?
theorem Kept.refl (T : Nat → Prop) (w : World) : Kept T w w := ⟨Nat.le_refl _, fun _ _ _ => rfl⟩
theorem Kept.trans {T : Nat → Prop} {a b c : World} (h : Kept T a b) (k : Kept T b c) : Kept T a c := ⟨Nat.le_trans h.size k.size, fun i hi hz => (k.block i hi (Nat.lt_of_lt_of_le hz h.size)).trans (h.block i hi hz)⟩
theorem Kept.of_below {T : Nat → Prop} {a b : World} (h : Below a.heap.size a b) : Kept T a b := ⟨h.size, fun i _ hi => h.block i hi⟩
theorem Kept.of_only {T S : Nat → Prop} {a b : World} (h : Only S a b) (hd : ∀ i, T i → ¬ S i) : Kept T a b := ⟨h.size, fun i hi hz => h.block i hz (hd i hi)⟩
theorem PrAt.keep {T : Nat → Prop} {w w' : World} {A : Option Addr} {l : PL} (h : PrAt T w A l) (k : Kept T w w') : PrAt T w' A l := fun h0 => by
  obtain ⟨b, hA, hT, hz, hc⟩ := h h0
  have e := k.block b hT hz
  exact ⟨b, hA, hT, Nat.lt_of_lt_of_le hz k.size, fun j x hx => ⟨(World.cell?_of_block e).trans (hc j x hx).1, (World.cell?_of_block e).trans (hc j x hx).2⟩⟩
theorem MapsAt.keep {T : Nat → Prop} {w w' : World} {A : Option Addr} {l : List RMap} (h : MapsAt T w A l) (k : Kept T w w') : MapsAt T w' A l := fun h0 => by
  obtain ⟨b, hA, hT, hz, hc⟩ := h h0
  have e := k.block b hT hz
  refine ⟨b, hA, hT, Nat.lt_of_lt_of_le hz k.size, fun j x hx => ?_⟩
  obtain ⟨u, c, c0, c1, c2, c3⟩ := hc j x hx
  exact ⟨u, c, (World.cell?_of_block e).trans c0, (World.cell?_of_block e).trans c1, (World.cell?_of_block e).trans c2, c3.keep k⟩
theorem WlkAt.keep {T : Nat → Prop} {w w' : World} {A : Option Addr} {l : List (Int × IterD)} (h : WlkAt T w A l) (k : Kept T w w') : WlkAt T w' A l := fun h0 => by
  obtain ⟨b, hA, hT, hz, hc⟩ := h h0
  have e := k.block b hT hz
  refine ⟨b, hA, hT, Nat.lt_of_lt_of_le hz k.size, fun j x hx => ?_⟩
  obtain ⟨c0, c1, c2, c3⟩ := hc j x hx
  exact ⟨(World.cell?_of_block e).trans c0, (World.cell?_of_block e).trans c1, (World.cell?_of_block e).trans c2, (World.cell?_of_block e).trans c3⟩
theorem RFamAt.keep {T : Nat → Prop} {w w' : World} {A D : Option Addr} {g : RFam} (h : RFamAt T w A D g) (k : Kept T w w') : RFamAt T w' A D g := ⟨h.maps.keep k, h.walks.keep k, h.fit⟩
theorem RFamAt.below {T : Nat → Prop} {w w' : World} {A D : Option Addr} {g : RFam} (h : RFamAt T w A D g) (hb : Below w.heap.size w w') : RFamAt T w' A D g := h.keep (Kept.of_below hb)
theorem PrAt.more {T T' : Nat → Prop} {w : World} {A : Option Addr} {l : PL} (h : PrAt T w A l) (k : ∀ i, T i → T' i) : PrAt T' w A l := fun h0 => by
  obtain ⟨b, hA, hT, hz, hc⟩ := h h0
  exact ⟨b, hA, k b hT, hz, hc⟩
theorem MapsAt.more {T T' : Nat → Prop} {w : World} {A : Option Addr} {l : List RMap} (h : MapsAt T w A l) (k : ∀ i, T i → T' i) : MapsAt T' w A l := fun h0 => by
  obtain ⟨b, hA, hT, hz, hc⟩ := h h0
  refine ⟨b, hA, k b hT, hz, fun j x hx => ?_⟩
  obtain ⟨u, c, c0, c1, c2, c3⟩ := hc j x hx
  exact ⟨u, c, c0, c1, c2, c3.more k⟩
theorem WlkAt.more {T T' : Nat → Prop} {w : World} {A : Option Addr} {l : List (Int × IterD)} (h : WlkAt T w A l) (k : ∀ i, T i → T' i) : WlkAt T' w A l := fun h0 => by
  obtain ⟨b, hA, hT, hz, hc⟩ := h h0
  exact ⟨b, hA, k b hT, hz, hc⟩
theorem RFamAt.more {T T' : Nat → Prop} {w : World} {A D : Option Addr} {g : RFam} (h : RFamAt T w A D g) (k : ∀ i, T i → T' i) : RFamAt T' w A D g := ⟨h.maps.more k, h.walks.more k, h.fit⟩
/-- the family's value: three cells -/
def rfamV (g : RFam) (A : Option Addr) (c : Nat) (D : Option Addr) (d : Nat) : Value := .agg #[.int .u64 g.mask, .slice A g.maps.length c, .slice D g.walks.length d]
theorem refnum_any (t i : Int) (w : World) (ht : -9223372036854775808 ≤ t ∧ t ≤ 9223372036854775807) (hi : -9223372036854775808 ≤ i ∧ i ≤ 9223372036854775807) :
    Calls Tryz.prog 50 #[.int .i64 t, .int .i64 i] w fun e w' => e = .returned (.int .i64 (numberOf t i)) ∧ w = w' := by
  by_cases h1 : t < 0
  · have X := Lib.hid (show numberOf t i = -1 by unfold numberOf; rw [if_pos (by omega)])
    go_enter Tryz.func50, Tryz.ntmps50
    go_wp2
    go_ret
    exact ⟨ret_int X.out.symm, rfl⟩
  by_cases h2 : 8 ≤ t
  · have X := Lib.hid (show numberOf t i = -1 by unfold numberOf; rw [if_pos (by omega)])
    go_enter Tryz.func50, Tryz.ntmps50
    go_wp2
    go_ret
    exact ⟨ret_int X.out.symm, rfl⟩
  by_cases h3 : i < 0
  · have X := Lib.hid (show numberOf t i = -1 by unfold numberOf; rw [if_pos (by omega)])
    go_enter Tryz.func50, Tryz.ntmps50
    go_wp2
    go_ret
    exact ⟨ret_int X.out.symm, rfl⟩
  by_cases h4 : 16 ≤ i
  · have X := Lib.hid (show numberOf t i = -1 by unfold numberOf; rw [if_pos (by omega)])
    go_enter Tryz.func50, Tryz.ntmps50
    go_wp2
    go_ret
    exact ⟨ret_int X.out.symm, rfl⟩
  · have X := Lib.hid (show numberOf t i = 1 + t * 16 + i by unfold numberOf; rw [if_neg (by omega)])
    have e1 : IntKind.i64.wrap (t * 16) = t * 16 := IntWalk.i64_in _ (by omega)
    have e2 : IntKind.i64.wrap (1 + t * 16) = 1 + t * 16 := IntWalk.i64_in _ (by omega)
    have e3 : IntKind.i64.wrap (1 + t * 16 + i) = 1 + t * 16 + i := IntWalk.i64_in _ (by omega)
    go_enter Tryz.func50, Tryz.ntmps50
    go_wp2
    go_ret
    exact ⟨ret_int X.out.symm, rfl⟩
end Go.Proofs.YtbmoehndnbbhcaaGreatDoor
