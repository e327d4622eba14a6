/- Part of a proof: SPlain SMem SChk SEq SEqS SNum SNum2 SRound. -/
import Derived.Lib.ItoaNum
import Derived.Lib.Split
import Derived.Lib.IndexMore
import Derived.Test.YtpabdmcbahmjnaaGreatProg
import Derived.WalkKit
import Derived.WalkLawsBesides
import Derived.WalkSpells
import Derived.Outline
import Derived.Lib.Hide
import Derived.Below
import Derived.Deep.QuietTactic
import Derived.BigQuiet
import Derived.Deep.LoopGhost
import Derived.Lib.Strings
import Derived.MapKept
namespace Go.Proofs.YtpabdmcbahmjnaaGreat.Sc
open Go
set_option linter.unusedSimpArgs false
set_option linter.unusedVariables false
structure OpD where
 kind : Int
 handle : Int
 key : ByteArray
 value : Int
 expect : Int
structure ScrD where
 mask : Int
 threads : List (List OpD)
 picks : List Int
def checkS (s : ScrD) : Int :=
 if 8 < s.threads.length ∨ 67108864 < s.picks.length then 3
 else if s.threads.any (fun t => decide (16 < t.length)) then 3 else 0
def digits (acc : Nat) : List UInt8 → Option Nat
 | [] => some acc
 | b :: r => if 48 ≤ b.toNat ∧ b.toNat ≤ 57 ∧ acc * 10 + (b.toNat - 48) < 18446744073709551616 then digits (acc * 10 + (b.toNat - 48)) r else none
def readNat (l : List UInt8) : Option Nat :=
 match l with
 | [] => none
 | [b] => digits 0 [b]
 | b :: r => if b = 48 then none else digits 0 (b :: r)
def readInt (l : List UInt8) : Option Int :=
 match l with
 | 45 :: r =>
  match readNat r with
  | some n => if n = 0 ∨ 9223372036854775808 < n then none else some (-(n : Int))
  | none => none
 | l =>
  match readNat l with
  | some n => if 9223372036854775807 < n then none else some (n : Int)
  | none => none
def hexV (b : UInt8) : Option Nat := if 48 ≤ b.toNat ∧ b.toNat ≤ 57 then some (b.toNat - 48) else if 97 ≤ b.toNat ∧ b.toNat ≤ 102 then some (b.toNat - 87) else none
def hexes : List UInt8 → Option (List UInt8)
 | [] => some []
 | [_] => none
 | a :: b :: r =>
  match hexV a, hexV b, hexes r with
  | some x, some y, some k => some (UInt8.ofNat (x * 16 + y) :: k)
  | _, _, _ => none
def readKey (l : List UInt8) : Option (List UInt8) :=
 match l with
 | 120 :: r => hexes r
 | _ => none
def readOp (ws : List (List UInt8)) : Option OpD :=
 match ws with
 | [a, b, k, v, x] =>
  match readInt a, readInt b, readKey k, readNat v, readNat x with
  | some a, some b, some k, some v, some x => some ⟨a, b, ⟨k.toArray⟩, v, x⟩
  | _, _, _, _, _ => none
 | _ => none
structure PS where
 scr : ScrD
 masked : Bool
 done : Bool
def addOp : List (List OpD) → OpD → List (List OpD)
 | [], _ => []
 | [t], o => [t ++ [o]]
 | t :: r, o => t :: addOp r o
end Go.Proofs.YtpabdmcbahmjnaaGreat.Sc
namespace Go.Proofs.YtpabdmcbahmjnaaGreat.Sc
open Go Go.RowKit
set_option linter.unusedSimpArgs false
set_option linter.unusedVariables false
theorem ret_int {k : IntKind} {a b : Int} (h : a = b) : Ending.returned (.int k a) = .returned (.int k b) := by rw [h]
def OpsAt (w : World) (u : Option Addr) (t : List OpD) : Prop :=
 0 < t.length → ∃ b off, u = some ⟨b, off, none⟩ ∧ b < w.heap.size ∧ ∀ k o, t[k]? = some o →
  w.cell? ⟨b, off + k * 5, none⟩ = some (.int .i64 o.kind) ∧ w.cell? ⟨b, off + k * 5 + 1, none⟩ = some (.int .i64 o.handle) ∧ w.cell? ⟨b, off + k * 5 + 2, none⟩ = some (.string o.key) ∧
  w.cell? ⟨b, off + k * 5 + 3, none⟩ = some (.int .u64 o.value) ∧ w.cell? ⟨b, off + k * 5 + 4, none⟩ = some (.int .u64 o.expect)
def ThrAt (w : World) (A : Option Addr) (ts : List (List OpD)) : Prop :=
 0 < ts.length → ∃ b off, A = some ⟨b, off, none⟩ ∧ b < w.heap.size ∧ ∀ i t, ts[i]? = some t → ∃ u c, w.cell? ⟨b, off + i, none⟩ = some (.slice u t.length c) ∧ OpsAt w u t
def PicksAt (w : World) (A : Option Addr) (ps : List Int) : Prop :=
 0 < ps.length → ∃ b off, A = some ⟨b, off, none⟩ ∧ b < w.heap.size ∧ ∀ i p, ps[i]? = some p → w.cell? ⟨b, off + i, none⟩ = some (.int .i64 p)
structure ScrAt (w : World) (A : Option Addr) (D : Option Addr) (s : ScrD) : Prop where
 thr : ThrAt w A s.threads
 pks : PicksAt w D s.picks
 l0 : s.threads.length ≤ 4611686018427387904
 l1 : s.picks.length ≤ 4611686018427387904
 l2 : ∀ t ∈ s.threads, t.length ≤ 4611686018427387904
def scrV (m : Int) (A : Option Addr) (n c : Nat) (D : Option Addr) (p d : Nat) : Value := .agg #[.int .u64 m, .slice A n c, .slice D p d]
theorem thr_cell {w : World} {A : Option Addr} {ts : List (List OpD)} (h : ThrAt w A ts) (o : Obj) {i : Nat} {t : List OpD} (hi : ts[i]? = some t) :
  ∃ b off u c, A = some ⟨b, off, none⟩ ∧ (w.alloc o).cell? ⟨b, off + i, none⟩ = some (.slice u t.length c) ∧ OpsAt w u t := by
 have hl : 0 < ts.length := by
  have := (List.getElem?_eq_some_iff.1 hi).1
  omega
 obtain ⟨b, off, hA, hlt, hc⟩ := h hl
 obtain ⟨u, c, c0, c1⟩ := hc i t hi
 exact ⟨b, off, u, c, hA, (World.cell?_of_block (Below.heap_alloc w o b hlt)).trans c0, c1⟩
theorem any_long {ts : List (List OpD)} {k : Nat} {t : List OpD} (h : ts[k]? = some t) (hl : 16 < t.length) : ts.any (fun t => decide (16 < t.length)) = true :=
 List.any_eq_true.2 ⟨t, List.mem_of_getElem? h, by simpa using hl⟩
theorem none_long {ts : List (List OpD)} (h : ∀ (i : Nat) (t : List OpD), ts[i]? = some t → t.length ≤ 16) : ts.any (fun t => decide (16 < t.length)) = false := by
 rw [List.any_eq_false]
 intro t ht
 obtain ⟨i, hi⟩ := List.getElem?_of_mem ht
 have := h i t hi
 simp; omega
def ChkRel (ts : List (List OpD)) (i : Value) : Prop := ∃ k : Nat, k ≤ ts.length ∧ i = .int .i64 k ∧ ∀ j t, j < k → ts[j]? = some t → t.length ≤ 16
set_option maxHeartbeats 1000000 in
theorem rcheck_any (w : World) (A D : Option Addr) (c d : Nat) (s : ScrD) (h : ScrAt w A D s) :
  Calls Tryz.prog 21 #[scrV s.mask A s.threads.length c D s.picks.length d] w fun e w' => e = .returned (.int .i64 (checkS s)) ∧ Below w.heap.size w w' := by
 obtain ⟨m, ts, ps⟩ := s
 have hl0 := h.l0
 have hl1 := h.l1
 have hl2 := Lib.hid h.l2
 have HT := Lib.hid h.thr
 simp only [scrV] at *
 by_cases h8 : 8 < ts.length
 ·have X := Lib.hid (show checkS ⟨m, ts, ps⟩ = 3 from if_pos (Or.inl h8))
  clear h
  go_enter Tryz.func21, Tryz.ntmps21
  go_wp2
  go_ret
  exact ⟨ret_int X.out.symm, (Below.refl _ _).alloc (Nat.le_refl _) _⟩
 by_cases hp : 67108864 < ps.length
 ·have X := Lib.hid (show checkS ⟨m, ts, ps⟩ = 3 from if_pos (Or.inr hp))
  clear h
  go_enter Tryz.func21, Tryz.ntmps21
  go_wp2
  go_ret
  exact ⟨ret_int X.out.symm, (Below.refl _ _).alloc (Nat.le_refl _) _⟩
 have X := Lib.hid (show checkS ⟨m, ts, ps⟩ = if ts.any (fun t => decide (16 < t.length)) then 3 else 0 from if_neg (by simp only; omega))
 have d8 : decide ((8 : Int) < (ts.length : Int)) = false := decide_eq_false (by omega)
 have dp : decide ((67108864 : Int) < (ps.length : Int)) = false := decide_eq_false (by omega)
 clear h
 go_enter Tryz.func21, Tryz.ntmps21
 go_wp2
 go_loop [3] (fun i => ChkRel ts i) (fun i => ts.length - (intOf i).toNat)
 case atStart => exact ⟨0, by omega, rfl, fun j t hj => by omega⟩
 case round =>
  obtain ⟨k, hk, rfl, hall⟩ := hrel
  have HA := Lib.hid hall
  clear hall d8 dp
  by_cases hlt : k < ts.length
  ·obtain ⟨t, ht⟩ : ∃ t, ts[k]? = some t := ⟨_, List.getElem?_eq_getElem hlt⟩
   obtain ⟨b, off, u, cc, rfl, hcell, _⟩ := thr_cell HT.out (.cells #[.int .u64 m, .slice A ts.length c, .slice D ps.length d] 30) ht
   have ht2 := hl2.out t (List.mem_of_getElem? ht)
   have TT := Lib.hid ht
   clear ht
   by_cases h16 : 16 < t.length
   ·go_wp2
    go_ret
    exact ⟨ret_int (by rw [X.out, any_long TT.out h16]; rfl), (Below.refl _ _).alloc (Nat.le_refl _) _⟩
   ·go_wp2
    go_round
    case rel => exact ⟨k + 1, by omega, by go_num, fun j t' hj hj' => by
     by_cases e : j = k
     ·subst e
      rw [TT.out] at hj'
      simp only [Option.some.injEq] at hj'
      subst hj'
      omega
     ·exact HA.out j t' (by omega) hj'⟩
    case measure => simp [intOf]; omega
  ·go_wp2
   go_ret
   refine ⟨ret_int ?_, (Below.refl _ _).alloc (Nat.le_refl _) _⟩
   rw [X.out, none_long (fun i t hi => HA.out i t (by have := (List.getElem?_eq_some_iff.1 hi).1; omega) hi)]
   rfl
def FewDraws (w w' : World) : Prop := ∃ n, w' = w.drewN n
theorem FewDraws.refl (w : World) : FewDraws w w := ⟨0, rfl⟩
theorem FewDraws.drewN {w w' : World} (h : FewDraws w w') (n : Nat) : FewDraws w (w'.drewN n) := by
 obtain ⟨k, rfl⟩ := h
 exact ⟨k + n, by simp [World.drewN, Nat.add_assoc]⟩
theorem FewDraws.heap {w w' : World} (h : FewDraws w w') : w'.heap = w.heap := by
 obtain ⟨k, rfl⟩ := h
 rfl
theorem FewDraws.below {w w' : World} (h : FewDraws w w') (B : Nat) : Below B w w' := by
 obtain ⟨k, rfl⟩ := h
 exact ⟨rfl, rfl, rfl, Nat.le_refl _, fun _ _ => rfl⟩
theorem bytes_ext (a b : ByteArray) (h : a.toList = b.toList) : a = b := by
 rw [Lib.toList_data, Lib.toList_data] at h
 cases a; cases b
 simp only [ByteArray.mk.injEq]
 exact Array.toList_inj.mp h
theorem blk_cell {w : World} {g : Nat} {t : TypeId} {cs : Array Value} (h : w.heap[g]? = some (.cells cs t (0, 0))) (i : Nat) : w.cell? ⟨g, i, none⟩ = cs[i]? := by
 simp [World.cell?, h]
end Go.Proofs.YtpabdmcbahmjnaaGreat.Sc
namespace Go.Proofs.YtpabdmcbahmjnaaGreat.Sc
open Go
set_option linter.unusedSimpArgs false
set_option linter.unusedVariables false
structure OpOk (o : OpD) : Prop where
 k0 : -9223372036854775808 ≤ o.kind
 k1 : o.kind ≤ 9223372036854775807
 h0 : -9223372036854775808 ≤ o.handle
 h1 : o.handle ≤ 9223372036854775807
 v0 : 0 ≤ o.value
 v1 : o.value ≤ 18446744073709551615
 e0 : 0 ≤ o.expect
 e1 : o.expect ≤ 18446744073709551615
structure ScrOk (s : ScrD) : Prop where
 m0 : 0 ≤ s.mask
 m1 : s.mask ≤ 18446744073709551615
 ops : ∀ t ∈ s.threads, ∀ o ∈ t, OpOk o
 picks : ∀ p ∈ s.picks, -9223372036854775808 ≤ p ∧ p ≤ 9223372036854775807
structure PSInv (st : PS) : Prop where
 a : st.masked = false → st.scr.threads = [] ∧ st.done = false
 ok : ScrOk st.scr
end Go.Proofs.YtpabdmcbahmjnaaGreat.Sc
