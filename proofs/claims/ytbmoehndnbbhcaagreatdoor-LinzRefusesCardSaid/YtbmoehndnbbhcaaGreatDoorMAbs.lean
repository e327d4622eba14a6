/- The walks of Hash. The walks of package model, fourth part: New, and the comparison of ordered. Families as plain data, without addresses: what an operation does. No walk in sight. -/
import Derived.Test.YtbmoehndnbbhcaaGreatDoorProg
import Derived.Test.YtbmoehndnbbhcaaGreatDoorMOrder
import Derived.WalkKit
import Derived.WalkLawsBesides
import Derived.WalkSpells
import Derived.Outline
import Derived.Lib.Hide
import Derived.Test.YtbmoehndnbbhcaaGreatDoorMFamB
namespace Go.Proofs.YtbmoehndnbbhcaaGreatDoor
set_option linter.unusedVariables false
set_option linter.unusedSimpArgs false
open Go.RowKit
theorem hash_any (s : ByteArray) (m : Int) (w : World) (hs : s.size ≤ maxLen) (h0 : 0 ≤ m) (h1 : m ≤ 18446744073709551615) :
    Calls Tryz.prog 74 #[.string s, .int .u64 m] w fun e w' => e = .returned (.int .u64 (hashM s.data.toList m)) ∧ w = w' := by
  unfold maxLen at hs
  go_enter Tryz.func74, Tryz.ntmps74
  go_wp2
  go_loop [5, 9] (fun n i => ∃ k : Nat, k ≤ s.size ∧ i = .int .i64 k ∧ n = .int .u64 (hashI (s.data.toList.take k))) (fun _ i => s.size - (intOf i).toNat)
  case atStart => exact ⟨0, Nat.zero_le _, rfl, rfl⟩
  case round =>
    obtain ⟨k, hk, rfl, rfl⟩ := hrel
    by_cases hlt : k < s.size
    · go_wp2
      go_round
      case rel => exact ⟨k + 1, by omega, by go_num, by rw [take_snoc s k hlt, ← hashI_step, u8wrap]⟩
      case measure => simp [intOf]; omega
    · go_wp2
      go_ret
      exact ⟨ret_int (by rw [List.take_of_length_le (by simp; omega), hash_mask _ _ h0 h1]), rfl⟩
theorem valid_any (s : ByteArray) (w : World) (hs : s.size ≤ maxLen) :
    Calls Tryz.prog 73 #[.string s] w fun e w' => e = .returned (.bool (decide ((s.size : Int) ≤ 64))) ∧ w = w' := by
  unfold maxLen at hs
  go_enter Tryz.func73, Tryz.ntmps73
  go_wp2
  go_ret
  exact ⟨rfl, rfl⟩
theorem slice_any (h l : Int) (w : World) (h0 : 0 ≤ h) (h1 : h ≤ 18446744073709551615) :
    Calls Tryz.prog 88 #[.int .u64 h, .int .i64 l] w fun e w' => e = .returned (.int .i64 (sl h l)) ∧ w = w' := by
  by_cases hl : l < 0 ∨ 11 ≤ l
  · have X := Lib.hid (sl_out h l hl)
    rcases hl with hl | hl
    · go_enter Tryz.func88, Tryz.ntmps88
      go_wp2
      go_ret
      exact ⟨ret_int X.out.symm, rfl⟩
    · have hl' : ¬ l < 0 := by omega
      go_enter Tryz.func88, Tryz.ntmps88
      go_wp2
      go_ret
      exact ⟨ret_int X.out.symm, rfl⟩
  · have l0 : 0 ≤ l := by omega
    have l1 : l < 11 := by omega
    have X := Lib.hid (sl_walk h l h0 h1 l0 l1)
    clear hl
    go_enter Tryz.func88, Tryz.ntmps88
    go_wp2
    go_ret
    exact ⟨ret_int X.out, rfl⟩
theorem common_any (h k : Int) (w : World) (h0 : 0 ≤ h) (h1 : h ≤ 18446744073709551615) (k0 : 0 ≤ k) (k1 : k ≤ 18446744073709551615) :
    Calls Tryz.prog 87 #[.int .u64 h, .int .u64 k] w fun e w' => e = .returned (.int .i64 (cm h k)) ∧ w = w' := by
  go_enter Tryz.func87, Tryz.ntmps87
  go_wp2
  go_loop [6] (fun i => ∃ j : Nat, j ≤ 11 ∧ cm h k = (cmFrom h k (11 - j) j : Nat) ∧ i = .int .i64 j) (fun i => 11 - (intOf i).toNat)
  case atStart => exact ⟨0, by omega, rfl, rfl⟩
  case round =>
    obtain ⟨j, j1, jc, rfl⟩ := hrel
    have JC := Lib.hid jc
    clear jc
    by_cases hlt : j < 11
    · by_cases he : sl h j = sl k j
      · have HE := Lib.hid he
        have hb : (sl h j != sl k j) = false := by simp [he]
        clear he
        go_wp2_with (go_at_call 88; refine (slice_any _ _ _ (by omega) (by omega)).mono ?_; rintro e w' ⟨rfl, rfl⟩)
        go_round
        case rel => exact ⟨j + 1, by omega, by rw [JC.out, show 11 - j = (11 - (j + 1)) + 1 by omega, cmFrom_eq h k _ _ HE.out], by go_num⟩
        case measure => simp [intOf]; omega
      · have HE := Lib.hid he
        have hb : (sl h j != sl k j) = true := by simp [he]
        clear he
        go_wp2_with (go_at_call 88; refine (slice_any _ _ _ (by omega) (by omega)).mono ?_; rintro e w' ⟨rfl, rfl⟩)
        go_ret
        exact ⟨ret_int (by rw [JC.out, show 11 - j = (11 - (j + 1)) + 1 by omega, cmFrom_ne h k _ _ HE.out]), rfl⟩
    · go_wp2_with fail
      go_ret
      exact ⟨ret_int (by rw [JC.out, show 11 - j = 0 by omega, show j = 11 by omega]; rfl), rfl⟩
theorem less_any (h k : Int) (a b : ByteArray) (w : World) (h0 : 0 ≤ h) (h1 : h ≤ 18446744073709551615) (k0 : 0 ≤ k) (k1 : k ≤ 18446744073709551615) :
    Calls Tryz.prog 77 #[.int .u64 h, .string a, .int .u64 k, .string b] w fun e w' => e = .returned (.bool (lessB h a.toList k b.toList)) ∧ w = w' := by
  have hb := cm_bd h k
  by_cases hc : cm h k < 11
  · have X := Lib.hid (lessB_in h a.toList k b.toList hc)
    go_enter Tryz.func77, Tryz.ntmps77
    go_wp2_with (first | (go_at_call 88; refine (slice_any _ _ _ (by omega) (by omega)).mono ?_; rintro e w' ⟨rfl, rfl⟩) | (go_at_call 87; refine (common_any _ _ _ (by omega) (by omega) (by omega) (by omega)).mono ?_; rintro e w' ⟨rfl, rfl⟩))
    go_ret
    exact ⟨ret_bool X.out.symm, rfl⟩
  · have X := Lib.hid (lessB_out h a.toList k b.toList hc)
    go_enter Tryz.func77, Tryz.ntmps77
    go_wp2_with (first | (go_at_call 88; refine (slice_any _ _ _ (by omega) (by omega)).mono ?_; rintro e w' ⟨rfl, rfl⟩) | (go_at_call 87; refine (common_any _ _ _ (by omega) (by omega) (by omega) (by omega)).mono ?_; rintro e w' ⟨rfl, rfl⟩))
    go_ret
    exact ⟨ret_bool X.out.symm, rfl⟩
end Go.Proofs.YtbmoehndnbbhcaaGreatDoor
namespace Go.Proofs.YtbmoehndnbbhcaaGreatDoor
set_option linter.unusedVariables false
set_option linter.unusedSimpArgs false
open Go.RowKit Go.MapKept
set_option maxRecDepth 100000 in
theorem new_any (w : World) (m : Int) :
    Calls Tryz.prog 18 #[.int .u64 m] w fun e w' => e = .returned (.pointer (some ⟨w.heap.size + 3, 0, none⟩)) ∧ Below w.heap.size w w' ∧
      FamIs w' (w.heap.size + 3) w.heap.size (w.heap.size + 2) { mask := m, maps := [(0, { ref := w.heap.size + 1, vals := [], ro := false })], iters := [] } := by
  have hmm := @run_makeMap Tryz.prog
  have m0 : MapIs ((w.alloc (.map #[] 0)).alloc (.map #[] 0)) w.heap.size (.int .i64) (Value.int .i64) mapV ([] : List (Int × MapD)) := (MapIs.made w _ _ _).alloc _
  have m1 : ValsIs ((w.alloc (.map #[] 0)).alloc (.map #[] 0)) (w.heap.size + 1) [] := by
    have := MapIs.made (κ := ByteArray) (β := Int) (w.alloc (.map #[] 0)) .string Value.string (Value.int .u64)
    simpa using this
  obtain ⟨o, hrun, hmi⟩ := m0.update (P := Tryz.prog) key_int inj_int Tryz.underlying100 Tryz.underlying3 0 { ref := w.heap.size + 1, vals := [], ro := false }
  have hT := Turned.mk' (w := (w.alloc (.map #[] 0)).alloc (.map #[] 0)) w.heap.size o
  simp only [mapV] at hrun
  generalize ChangeMaps.setBlock ((w.alloc (.map #[] 0)).alloc (.map #[] 0)) w.heap.size o = w2 at *
  have hz : w2.heap.size = w.heap.size + 2 := by rw [hT.size]; simp
  have M0 := Lib.hid hmi
  have M1 := Lib.hid (m1.of_block (hT.block (w.heap.size + 1) (by omega)))
  have BB : Hid (Below w.heap.size w w2) := ⟨hT.os, hT.tape, hT.output, by rw [hz]; omega, fun k hk => by
    rw [hT.block k (by omega), Below.heap_alloc _ _ _ (by simp; omega), Below.heap_alloc _ _ _ hk]⟩
  clear m0 m1 hmi hT
  go_enter Tryz.func18, Tryz.ntmps18
  go_wp2_with fail
  go_ret
  refine ⟨rfl, (BB.out.alloc (by omega) _).alloc (by simp; omega) _, ?_⟩
  have hz3 : (w2.alloc (.map #[] 0)).heap.size = w.heap.size + 3 := by simp [hz]
  refine ⟨?_, ?_, ?_, ?_, ?_⟩
  · have := (heap_alloc (w2.alloc (.map #[] 0)) (.cells #[.int .u64 m, .map (some w.heap.size), .map (some (w.heap.size + 2))] 103)).1
    rw [hz3] at this
    exact this
  · exact (M0.out.alloc _).alloc _
  · have := (MapIs.made (κ := Int) (β := IterD) w2 (.int .i64) (Value.int .i64) itV).alloc (.cells #[.int .u64 m, .map (some w.heap.size), .map (some (w.heap.size + 2))] 103)
    rw [hz] at this
    exact this
  · intro p hp
    simp only [List.mem_singleton] at hp
    subst hp
    exact (M1.out.alloc _).alloc _
  · simp
theorem compare_same (k : ByteArray) (w : World) :
    Calls Tryz.prog 78 #[.string k, .string k] w fun e w' => e = .returned (.int .i64 0) ∧ w = w' := by
  have hi := bl_irrefl k.toList
  go_enter Tryz.func78, Tryz.ntmps78
  go_wp2
  go_ret
  exact ⟨rfl, rfl⟩
/-- the order of the pairs of a map -/
def ltP (m : Int) (x y : ByteArray × Int) : Bool := lessB (hashM x.1.data.toList m) x.1.toList (hashM y.1.data.toList m) y.1.toList
def cmpP (m : Int) (x y : ByteArray × Int) : Int := if ltP m x y then -1 else if ltP m y x then 1 else 0
def encP (m : Int) (x : ByteArray × Int) : List Value := [.int .u64 (hashM x.1.data.toList m), .string x.1, .int .u64 x.2]
set_option maxHeartbeats 1000000 in
theorem closure_any (m : Int) (x y : ByteArray × Int) (W : World) :
    Calls Tryz.prog 76 #[.agg (encP m x).toArray, .agg (encP m y).toArray] W fun e w' => e = .returned (.int .i64 (cmpP m x y)) ∧ ∃ o1 o2, w' = (W.alloc o1).alloc o2 := by
  obtain ⟨k, v⟩ := x
  obtain ⟨k', v'⟩ := y
  have b1 := hashM_bd k.data.toList m
  have b2 := hashM_bd k'.data.toList m
  have X := Lib.hid (show cmpP m (k, v) (k', v') = if lessB (hashM k.data.toList m) k.toList (hashM k'.data.toList m) k'.toList then -1 else if lessB (hashM k'.data.toList m) k'.toList (hashM k.data.toList m) k.toList then 1 else 0 from rfl)
  show Calls Tryz.prog 76 #[.agg #[.int .u64 (hashM k.data.toList m), .string k, .int .u64 v], .agg #[.int .u64 (hashM k'.data.toList m), .string k', .int .u64 v']] W _
  generalize hashM k.data.toList m = h at *
  generalize hashM k'.data.toList m = h' at *
  rcases hx : lessB h k.toList h' k'.toList with _ | _
  · rcases hy : lessB h' k'.toList h k.toList with _ | _
    · obtain ⟨e1, e2⟩ := less_total h k.toList h' k'.toList b1.1 b1.2 b2.1 b2.2 hx hy
      have e3 := bytes_ext k k' e2
      subst e1 e3
      have Z := Lib.hid (show cmpP m (k, v) (k, v') = 0 by rw [X.out, hx]; simp)
      clear e2 hy X
      go_enter Tryz.func76, Tryz.ntmps76
      go_wp2_with (first | (go_at_call 77; ((with_reducible refine (less_any _ _ _ _ _ (by omega) (by omega) (by omega) (by omega)).mono ?_); rintro e w' ⟨rfl, rfl⟩)) | (go_at_call 78; refine (compare_same _ _).mono ?_; rintro e w' ⟨rfl, rfl⟩))
      go_ret
      exact ⟨ret_int Z.out.symm, _, _, rfl⟩
    · have Z := Lib.hid (show cmpP m (k, v) (k', v') = 1 by rw [X.out, hx, hy]; simp)
      clear X
      go_enter Tryz.func76, Tryz.ntmps76
      go_wp2_with (go_at_call 77; ((with_reducible refine (less_any _ _ _ _ _ (by omega) (by omega) (by omega) (by omega)).mono ?_); rintro e w' ⟨rfl, rfl⟩))
      go_ret
      exact ⟨ret_int Z.out.symm, _, _, rfl⟩
  · have Z := Lib.hid (show cmpP m (k, v) (k', v') = -1 by rw [X.out, hx]; simp)
    clear X
    go_enter Tryz.func76, Tryz.ntmps76
    go_wp2_with (go_at_call 77; ((with_reducible refine (less_any _ _ _ _ _ (by omega) (by omega) (by omega) (by omega)).mono ?_); rintro e w' ⟨rfl, rfl⟩))
    go_ret
    exact ⟨ret_int Z.out.symm, _, _, rfl⟩
end Go.Proofs.YtbmoehndnbbhcaaGreatDoor
namespace Go.Proofs.YtbmoehndnbbhcaaGreatDoor
set_option linter.unusedVariables false
set_option linter.unusedSimpArgs false
open Go.RowKit Go.MapKept
/-- the pairs of a map in the order of their keys -/
def sortedOf (m : Int) (L : List (ByteArray × Int)) : List (ByteArray × Int) := L.mergeSort (fun a b => !ltP m b a)
theorem sortedOf_perm (m : Int) (L : List (ByteArray × Int)) : (sortedOf m L).Perm L := List.mergeSort_perm L _
theorem sortedOf_length (m : Int) (L : List (ByteArray × Int)) : (sortedOf m L).length = L.length := (sortedOf_perm m L).length_eq
structure AMap where
  vals : List (ByteArray × Int)
  ro : Bool
structure AFam where
  mask : Int
  maps : List (Int × AMap)
  iters : List (Int × IterD)
def MapD.abs (d : MapD) : AMap := ⟨d.vals, d.ro⟩
def amap {β γ : Type} (f : β → γ) (L : List (Int × β)) : List (Int × γ) := L.map (fun p => (p.1, f p.2))
def FamD.abs (F : FamD) : AFam := ⟨F.mask, amap MapD.abs F.maps, F.iters⟩
theorem alook_amap {β γ : Type} (f : β → γ) (L : List (Int × β)) (k : Int) : alook (amap f L) k = (alook L k).map f := by
  induction L with
  | nil => rfl
  | cons p r ih =>
    obtain ⟨a, b⟩ := p
    by_cases h : a = k
    · simp [amap, alook, h]
    · have : alook (amap f ((a, b) :: r)) k = alook (amap f r) k := by simp [amap, alook, h]
      rw [this, ih]
      simp [alook, h]
theorem aset_amap {β γ : Type} (f : β → γ) (L : List (Int × β)) (k : Int) (v : β) : aset (amap f L) k (f v) = amap f (aset L k v) := by
  induction L with
  | nil => rfl
  | cons p r ih =>
    obtain ⟨a, b⟩ := p
    by_cases h : a = k
    · simp [amap, aset, h]
    · have h1 : aset (amap f ((a, b) :: r)) k (f v) = (a, f b) :: aset (amap f r) k (f v) := by simp [amap, aset, h]
      have h2 : aset ((a, b) :: r) k v = (a, b) :: aset r k v := by simp [aset, h]
      rw [h1, ih, h2]
      rfl
theorem alook_aset_self {κ β : Type} [DecidableEq κ] (L : List (κ × β)) (k : κ) (v : β) : alook (aset L k v) k = some v := by
  induction L with
  | nil => simp [aset, alook]
  | cons p r ih =>
    obtain ⟨a, b⟩ := p
    by_cases h : a = k
    · simp [aset, alook, h]
    · simp [aset, alook, h, ih]
theorem alook_aset_ne {κ β : Type} [DecidableEq κ] (L : List (κ × β)) (k q : κ) (v : β) (hq : q ≠ k) : alook (aset L k v) q = alook L q := by
  induction L with
  | nil => simp [aset, alook, Ne.symm hq]
  | cons p r ih =>
    obtain ⟨a, b⟩ := p
    by_cases h : a = k
    · subst h
      simp [aset, alook, Ne.symm hq]
    · simp [aset, alook, h, ih]
theorem alook_adel_ne {κ β : Type} [DecidableEq κ] (L : List (κ × β)) (k q : κ) (hq : q ≠ k) : alook (adel L k) q = alook L q := by
  induction L with
  | nil => simp [adel]
  | cons p r ih =>
    obtain ⟨a, b⟩ := p
    by_cases h : a = k
    · subst h
      simp [adel, alook, Ne.symm hq]
    · simp [adel, alook, h, ih]
theorem alook_adel_self {κ β : Type} [DecidableEq κ] (L : List (κ × β)) (k : κ) (hn : (L.map (·.1)).Nodup) : alook (adel L k) k = none := by
  induction L with
  | nil => simp [adel, alook]
  | cons p r ih =>
    obtain ⟨a, b⟩ := p
    simp only [List.map_cons, List.nodup_cons] at hn
    by_cases h : a = k
    · subst h
      simp only [adel, if_true]
      exact alook_none fun q hq e => hn.1 (e ▸ List.mem_map.2 ⟨q, hq, rfl⟩)
    · simp [adel, alook, h, ih hn.2]
theorem aset_mem' {κ β : Type} [DecidableEq κ] {L : List (κ × β)} {n : κ} {d : β} {p : κ × β} (h : p ∈ aset L n d) : p = (n, d) ∨ p ∈ L := aset_mem h
theorem adel_mem {κ β : Type} [DecidableEq κ] {L : List (κ × β)} {n : κ} {p : κ × β} (h : p ∈ adel L n) : p ∈ L := by
  induction L with
  | nil => simp [adel] at h
  | cons q r ih =>
    obtain ⟨a, b⟩ := q
    by_cases ha : a = n
    · simp [adel, ha] at h
      exact .tail _ h
    · simp [adel, ha] at h
      rcases h with h | h
      · exact h ▸ .head _
      · exact .tail _ (ih h)
theorem aset_len {κ β : Type} [DecidableEq κ] (L : List (κ × β)) (n : κ) (d : β) : (aset L n d).length ≤ L.length + 1 := by
  induction L with
  | nil => simp [aset]
  | cons q r ih =>
    obtain ⟨a, b⟩ := q
    by_cases ha : a = n
    · simp [aset, ha]
    · simp [aset, ha]; omega
theorem aset_len_old {κ β : Type} [DecidableEq κ] (L : List (κ × β)) (n : κ) (d e : β) (h : alook L n = some e) : (aset L n d).length = L.length := by
  induction L with
  | nil => simp [alook] at h
  | cons q r ih =>
    obtain ⟨a, b⟩ := q
    by_cases ha : a = n
    · simp [aset, ha]
    · simp only [alook, if_neg ha] at h
      simp [aset, ha, ih h]
theorem adel_len {κ β : Type} [DecidableEq κ] (L : List (κ × β)) (n : κ) : (adel L n).length ≤ L.length := by
  induction L with
  | nil => simp [adel]
  | cons q r ih =>
    obtain ⟨a, b⟩ := q
    by_cases ha : a = n
    · simp [adel, ha]
    · simp [adel, ha]; omega
theorem aset_isSome {κ β : Type} [DecidableEq κ] (L : List (κ × β)) (n k : κ) (d : β) (h : (alook L k).isSome = true) : (alook (aset L n d) k).isSome = true := by
  by_cases hk : k = n
  · subst hk; rw [alook_aset_self]; rfl
  · rw [alook_aset_ne _ _ _ _ hk]; exact h
/-! ### the operations -/
def unfitA (A : AFam) (o : OpD) : Int :=
  match alook A.maps o.handle with
  | none => 5
  | some d => unfitK o.kind o.key d.ro
def takenA (A : AFam) (n : Int) : Bool := (alook A.maps n).isSome || (alook A.iters n).isSome
def lostA (A : AFam) (t : Int) (h : Int) : Bool :=
  match alook A.iters h with
  | none => true
  | some it => it.thread != t
def refusalA (A : AFam) (t i : Int) (o : OpD) : Int :=
  if numberOf t i < 0 ∨ o.kind < 1 ∨ 13 < o.kind then 1
  else if o.kind == 13 then (if lostA A t o.handle then 5 else if takenA A (numberOf t i) then 8 else 0)
  else if unfitA A o != 0 then unfitA A o
  else if takenA A (numberOf t i) then 8 else 0
theorem unfit_abs (F : FamD) (o : OpD) : unfitD F o = unfitA F.abs o := by
  unfold unfitD unfitA FamD.abs
  simp only [alook_amap]
  cases alook F.maps o.handle <;> rfl
theorem taken_abs (F : FamD) (n : Int) : takenD F n = takenA F.abs n := by
  unfold takenD takenA FamD.abs
  simp only [alook_amap, Option.isSome_map]
theorem refusal_abs (F : FamD) (t i : Int) (o : OpD) : refusalD F t i o = refusalA F.abs t i o := by
  unfold refusalD refusalA
  rw [unfit_abs, taken_abs]
  rfl
def nextA (A : AFam) (n : Int) : AFam × ResD :=
  match alook A.iters n with
  | none => (A, {})
  | some it =>
    match alook A.maps it.number with
    | none => (A, {})
    | some d =>
      if (d.vals.length : Int) ≤ it.pos then (A, {})
      else ({ A with iters := aset A.iters n { it with pos := it.pos + 1 } }, { found := true, key := ((sortedOf A.mask d.vals)[it.pos.toNat]?.getD (⟨#[]⟩, 0)).1, value := ((sortedOf A.mask d.vals)[it.pos.toNat]?.getD (⟨#[]⟩, 0)).2 })
def doA (A : AFam) (t i : Int) (o : OpD) (d : AMap) : AFam × ResD :=
  if o.kind ≤ 4 then ({ A with maps := aset A.maps o.handle ⟨setV d.vals o, d.ro⟩ }, setR d.vals o)
  else if o.kind ≤ 6 then ({ A with maps := aset A.maps o.handle ⟨removeV d.vals o, d.ro⟩ }, removeR d.vals o)
  else if o.kind = 7 then (A, { found := (alook d.vals o.key).isSome, value := (alook d.vals o.key).getD 0 })
  else if o.kind ≤ 9 then ({ A with maps := aset A.maps (numberOf t i) ⟨d.vals, o.kind == 9⟩ }, { found := true })
  else if o.kind = 10 then ({ A with maps := aset A.maps o.handle ⟨[], d.ro⟩ }, { found := true })
  else if o.kind = 11 then (A, { count := d.vals.length })
  else ({ A with iters := aset A.iters (numberOf t i) ⟨t, o.handle, 0⟩ }, { found := true })
def applyA (A : AFam) (t i : Int) (o : OpD) : AFam × ResD :=
  if refusalA A t i o ≠ 0 then (A, { err := refusalA A t i o })
  else if o.kind = 13 then nextA A o.handle
  else
    match alook A.maps o.handle with
    | none => (A, {})
    | some d => doA A t i o d
theorem applyA_err {A : AFam} {t i : Int} {o : OpD} (h : refusalA A t i o ≠ 0) : applyA A t i o = (A, { err := refusalA A t i o }) := if_pos h
theorem applyA_do {A : AFam} {t i : Int} {o : OpD} {d : AMap} (h : refusalA A t i o = 0) (hk : o.kind ≠ 13) (hd : alook A.maps o.handle = some d) : applyA A t i o = doA A t i o d := by
  unfold applyA
  rw [if_neg (by rw [h]; simp), if_neg hk, hd]
theorem applyA_next {A : AFam} {t i : Int} {o : OpD} (h : refusalA A t i o = 0) (hk : o.kind = 13) : applyA A t i o = nextA A o.handle := by
  unfold applyA
  rw [if_neg (by rw [h]; simp), if_pos hk]
/-- what a permitted operation finds -/
theorem refusal_none {A : AFam} {t i : Int} {o : OpD} (h : refusalA A t i o = 0) :
    0 ≤ numberOf t i ∧ 1 ≤ o.kind ∧ o.kind ≤ 13 ∧ takenA A (numberOf t i) = false ∧ (o.kind = 13 → ∃ it, alook A.iters o.handle = some it ∧ it.thread = t) ∧
    (o.kind ≠ 13 → ∃ d, alook A.maps o.handle = some d ∧ unfitK o.kind o.key d.ro = 0) := by
  unfold refusalA at h
  by_cases h1 : numberOf t i < 0 ∨ o.kind < 1 ∨ 13 < o.kind
  · rw [if_pos h1] at h; exact absurd h (by decide)
  rw [if_neg h1] at h
  refine ⟨by omega, by omega, by omega, ?_⟩
  by_cases hk : o.kind = 13
  · have hb : (o.kind == 13) = true := by simp [hk]
    rw [if_pos hb] at h
    cases hl : lostA A t o.handle with
    | true => rw [hl] at h; simp at h
    | false =>
      rw [hl] at h
      cases ht : takenA A (numberOf t i) with
      | true => rw [ht] at h; simp at h
      | false =>
        refine ⟨rfl, fun _ => ?_, fun hh => absurd hk hh⟩
        unfold lostA at hl
        cases hi : alook A.iters o.handle with
        | none => rw [hi] at hl; simp at hl
        | some it => rw [hi] at hl; exact ⟨it, rfl, by simpa using hl⟩
  · have hb : ¬ (o.kind == 13) = true := by simp [hk]
    rw [if_neg hb] at h
    by_cases hu : unfitA A o = 0
    · rw [if_neg (by simp [hu])] at h
      cases ht : takenA A (numberOf t i) with
      | true => rw [ht] at h; simp at h
      | false =>
        refine ⟨rfl, fun hh => absurd hh hk, fun _ => ?_⟩
        unfold unfitA at hu
        cases hd : alook A.maps o.handle with
        | none => rw [hd] at hu; simp at hu
        | some d => rw [hd] at hu; exact ⟨d, rfl, hu⟩
    · rw [if_pos (by simp [hu])] at h
      exact absurd h hu
theorem unfitK_key {kind : Int} {key : ByteArray} {ro : Bool} (h : unfitK kind key ro = 0) (hk : kind ≤ 7) : key.size ≤ 64 := by
  unfold unfitK at h
  by_cases hc : kind ≤ 7 ∧ ¬ (key.size : Int) ≤ 64
  · rw [if_pos hc] at h; exact absurd h (by decide)
  · omega
/-! ### the bounds -/
structure OkA (N : Nat) (A : AFam) : Prop where
  m0 : 0 ≤ A.mask
  m1 : A.mask ≤ 18446744073709551615
  keys : ∀ p ∈ A.maps, ∀ q ∈ p.2.vals, q.1.size ≤ 64
  lens : ∀ p ∈ A.maps, p.2.vals.length ≤ N
  poss : ∀ p ∈ A.iters, 0 ≤ p.2.pos ∧ p.2.pos ≤ N
  nums : ∀ p ∈ A.iters, (alook A.maps p.2.number).isSome = true
  count : A.maps.length ≤ N
theorem OkA.more {N M : Nat} {A : AFam} (h : OkA N A) (hm : N ≤ M) : OkA M A :=
  ⟨h.m0, h.m1, h.keys, fun p hp => Nat.le_trans (h.lens p hp) hm, fun p hp => ⟨(h.poss p hp).1, by have := (h.poss p hp).2; omega⟩, h.nums, Nat.le_trans h.count hm⟩
theorem OkA.set_maps {N : Nat} {A : AFam} (h : OkA N A) (n : Int) (d : AMap) (hk : ∀ q ∈ d.vals, q.1.size ≤ 64) (hl : d.vals.length ≤ N + 1) : OkA (N + 1) { A with maps := aset A.maps n d } := by
  refine ⟨h.m0, h.m1, fun p hp => ?_, fun p hp => ?_, fun p hp => ?_, fun p hp => aset_isSome _ _ _ _ (h.nums p hp), ?_⟩
  · rcases aset_mem hp with rfl | hp
    · exact hk
    · exact h.keys p hp
  · rcases aset_mem hp with rfl | hp
    · exact hl
    · exact Nat.le_trans (h.lens p hp) (by omega)
  · exact ⟨(h.poss p hp).1, by have := (h.poss p hp).2; omega⟩
  · have := aset_len A.maps n d
    have := h.count
    show (aset A.maps n d).length ≤ N + 1
    omega
theorem OkA.set_iters {N : Nat} {A : AFam} (h : OkA N A) (n : Int) (it : IterD) (h0 : 0 ≤ it.pos) (h1 : it.pos ≤ N + 1) (hn : (alook A.maps it.number).isSome = true) : OkA (N + 1) { A with iters := aset A.iters n it } := by
  refine ⟨h.m0, h.m1, h.keys, fun p hp => Nat.le_trans (h.lens p hp) (by omega), fun p hp => ?_, fun p hp => ?_, Nat.le_trans h.count (by omega)⟩
  · rcases aset_mem hp with rfl | hp
    · exact ⟨h0, by show it.pos ≤ ((N + 1 : Nat) : Int); omega⟩
    · exact ⟨(h.poss p hp).1, by have := (h.poss p hp).2; omega⟩
  · rcases aset_mem hp with rfl | hp
    · exact hn
    · exact h.nums p hp
theorem OkA.apply {N : Nat} {A : AFam} (h : OkA N A) (t i : Int) (o : OpD) : OkA (N + 1) (applyA A t i o).1 := by
  by_cases hz : refusalA A t i o = 0
  · obtain ⟨_, k1, k2, ht, h13, hd⟩ := refusal_none hz
    by_cases hk : o.kind = 13
    · obtain ⟨it, hi, _⟩ := h13 hk
      rw [applyA_next hz hk]
      have hp := h.poss _ (alook_mem hi)
      have hn := h.nums _ (alook_mem hi)
      unfold nextA
      rw [hi]
      simp only at hp hn ⊢
      cases hm : alook A.maps it.number with
      | none => exact h.more (by omega)
      | some d =>
        simp only
        by_cases hc : (d.vals.length : Int) ≤ it.pos
        · rw [if_pos hc]; exact h.more (by omega)
        · rw [if_neg hc]
          exact h.set_iters _ _ (by show 0 ≤ it.pos + 1; omega) (by show it.pos + 1 ≤ (N : Int) + 1; omega) (by show (alook A.maps it.number).isSome = true; rw [hm]; rfl)
    · obtain ⟨d, hd, hu⟩ := hd hk
      rw [applyA_do hz hk hd]
      have hkeys := h.keys _ (alook_mem hd)
      have hlen := h.lens _ (alook_mem hd)
      simp only at hkeys hlen
      unfold doA
      by_cases c4 : o.kind ≤ 4
      · rw [if_pos c4]
        have h64 := unfitK_key hu (by omega)
        refine h.set_maps _ _ (fun q hq => ?_) ?_
        · simp only [setV] at hq
          split at hq
          · rcases aset_mem hq with rfl | hq
            · exact h64
            · exact hkeys q hq
          · exact hkeys q hq
        · simp only [setV]
          split
          · have := aset_len d.vals o.key o.value; omega
          · omega
      rw [if_neg c4]
      by_cases c6 : o.kind ≤ 6
      · rw [if_pos c6]
        refine h.set_maps _ _ (fun q hq => ?_) ?_
        · simp only [removeV] at hq
          split at hq
          · exact hkeys q (adel_mem hq)
          · exact hkeys q hq
        · simp only [removeV]
          split
          · have := adel_len d.vals o.key; omega
          · omega
      rw [if_neg c6]
      by_cases c7 : o.kind = 7
      · rw [if_pos c7]; exact h.more (by omega)
      rw [if_neg c7]
      by_cases c9 : o.kind ≤ 9
      · rw [if_pos c9]; exact h.set_maps _ _ hkeys (by simp only; omega)
      rw [if_neg c9]
      by_cases c10 : o.kind = 10
      · rw [if_pos c10]; exact h.set_maps _ _ (by simp) (by simp)
      rw [if_neg c10]
      by_cases c11 : o.kind = 11
      · rw [if_pos c11]; exact h.more (by omega)
      rw [if_neg c11]
      exact h.set_iters _ _ (by simp) (by simp only; omega) (by simp only; rw [hd]; rfl)
  · rw [applyA_err hz]; exact h.more (by omega)
end Go.Proofs.YtbmoehndnbbhcaaGreatDoor
