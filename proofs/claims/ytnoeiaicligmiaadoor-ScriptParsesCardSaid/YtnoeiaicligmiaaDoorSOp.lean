/- The walk of the parser's op. -/
import Derived.Test.YtnoeiaicligmiaaDoorSArr
import Derived.Deep.DeepCutAuto
namespace Go.Proofs.YtnoeiaicligmiaaDoor
set_option linter.unusedVariables false
set_option linter.unusedSimpArgs false
open Go Go.RowKit
structure OpSt (w : World) (vs bs : Array Value) (W : World) : Prop where
  bw : Below w.heap.size w W
  q : W.heap[w.heap.size]? = some (.cells vs 39 (0, 0))
  v : W.heap[w.heap.size + 1]? = some (.cells bs 101 (0, 0))
theorem OpSt.start (w : World) (vs bs : Array Value) : OpSt w vs bs ((w.alloc (.cells vs 39)).alloc (.cells bs 101)) :=
  ⟨((Below.refl _ _).alloc (Nat.le_refl _) _).alloc (by simp) _, by rw [Below.heap_alloc _ _ _ (by simp)]; exact (MapKept.heap_alloc w _).1, by have := (MapKept.heap_alloc (w.alloc (.cells vs 39)) (.cells bs 101)).1; simpa using this⟩
theorem OpSt.lt {w W : World} {vs bs : Array Value} (h : OpSt w vs bs W) : w.heap.size + 1 < W.heap.size := (Array.getElem?_eq_some_iff.1 h.v).1
theorem OpSt.call {w W W' : World} {vs bs : Array Value} (h : OpSt w vs bs W) (hb : Below W.heap.size W W') : OpSt w vs bs W' :=
  ⟨h.bw.trans (hb.mono h.bw.size), (hb.block _ (by have := h.lt; omega)).trans h.q, (hb.block _ h.lt).trans h.v⟩
theorem OpSt.put {w W : World} {vs bs : Array Value} (h : OpSt w vs bs W) (j : Nat) (x y : Value) : OpSt w (vs.setIfInBounds j x) (bs.setIfInBounds j y) ((W.setCell ⟨w.heap.size, j, none⟩ x).setCell ⟨w.heap.size + 1, j, none⟩ y) := by
  refine ⟨(h.bw.setCell (p := ⟨w.heap.size, j, none⟩) (Nat.le_refl _) _).setCell (p := ⟨w.heap.size + 1, j, none⟩) (by simp) _, ?_, ?_⟩
  · rw [Below.heap_setCell _ _ _ _ (by simp)]
    exact heap_set h.q x
  · exact heap_set (by rw [Below.heap_setCell _ _ _ _ (by simp)]; exact h.v) y
def opR (st : PS) (ws : List (List UInt8)) : Option PS := match readOp ws with
  | some o => if st.scr.threads = [] then none else some { st with scr := { st.scr with threads := addOp st.scr.threads o } }
  | none => none
theorem opR_empty {st : PS} {ws : List (List UInt8)} (h : st.scr.threads = []) : opR st ws = none := by
  unfold opR
  cases readOp ws with
  | none => rfl
  | some o => simp [h]
theorem opR_len {st : PS} {ws : List (List UInt8)} (h : ws.length ≠ 5) : opR st ws = none := by
  unfold opR
  have : readOp ws = none := by
    unfold readOp
    split
    · simp at h
    · rfl
  rw [this]
def opD (a b k v x : List UInt8) : OpD := ⟨(intR a).1, (intR b).1, ⟨(keyR k).1.toArray⟩, (natR v).1, (natR x).1⟩
theorem intR_true {l : List UInt8} (h : (intR l).2 = true) : readInt l = some (intR l).1 := by
  unfold intR at h ⊢
  cases hr : readInt l with
  | none => rw [hr] at h; simp at h
  | some n => rfl
theorem intR_false {l : List UInt8} (h : (intR l).2 = false) : readInt l = none := by
  unfold intR at h
  cases hr : readInt l with
  | none => rfl
  | some n => rw [hr] at h; simp at h
theorem natR_true {l : List UInt8} (h : (natR l).2 = true) : ∃ n : Nat, readNat l = some n ∧ (natR l).1 = n := by
  unfold natR at h ⊢
  cases hr : readNat l with
  | none => rw [hr] at h; simp at h
  | some n => exact ⟨n, rfl, rfl⟩
theorem natR_false {l : List UInt8} (h : (natR l).2 = false) : readNat l = none := by
  unfold natR at h
  cases hr : readNat l with
  | none => rfl
  | some n => rw [hr] at h; simp at h
theorem keyR_true {l : List UInt8} (h : (keyR l).2 = true) : readKey l = some (keyR l).1 := by
  unfold keyR at h ⊢
  cases hr : readKey l with
  | none => rw [hr] at h; simp at h
  | some n => rfl
theorem keyR_false {l : List UInt8} (h : (keyR l).2 = false) : readKey l = none := by
  unfold keyR at h
  cases hr : readKey l with
  | none => rfl
  | some n => rw [hr] at h; simp at h
theorem opR_yes {st : PS} {a b k v x : List UInt8} (ht : st.scr.threads ≠ []) (h1 : (intR a).2 = true) (h2 : (intR b).2 = true) (h3 : (keyR k).2 = true) (h4 : (natR v).2 = true) (h5 : (natR x).2 = true) :
    opR st [a, b, k, v, x] = some { st with scr := { st.scr with threads := addOp st.scr.threads (opD a b k v x) } } := by
  obtain ⟨n, hn, e4⟩ := natR_true h4
  obtain ⟨m, hm, e5⟩ := natR_true h5
  have hro : readOp [a, b, k, v, x] = some (opD a b k v x) := by
    simp only [readOp, intR_true h1, intR_true h2, keyR_true h3, hn, hm, opD, e4, e5]
  unfold opR
  rw [hro]
  simp only [ht, if_false]
theorem opR_no {st : PS} {a b k v x : List UInt8} (h : ¬ ((intR a).2 = true ∧ (intR b).2 = true ∧ (keyR k).2 = true ∧ (natR v).2 = true ∧ (natR x).2 = true)) : opR st [a, b, k, v, x] = none := by
  have : readOp [a, b, k, v, x] = none := by
    unfold readOp
    by_cases h1 : (intR a).2 = true
    · by_cases h2 : (intR b).2 = true
      · by_cases h3 : (keyR k).2 = true
        · by_cases h4 : (natR v).2 = true
          · by_cases h5 : (natR x).2 = true
            · exact absurd ⟨h1, h2, h3, h4, h5⟩ h
            · simp only [natR_false (by simpa using h5)]
              split
              · simp_all
              · rfl
          · simp only [natR_false (by simpa using h4)]
            split
            · simp_all
            · rfl
        · simp only [keyR_false (by simpa using h3)]
          split
          · simp_all
          · rfl
      · simp only [intR_false (by simpa using h2)]
        split
        · simp_all
        · rfl
    · simp only [intR_false (by simpa using h1)]
  unfold opR
  rw [this]
theorem thr_at {B : Nat} {w0 w : World} {P : Nat} {st : PS} {vp : Value} {us : List Value} {g gc : Nat} (h : ParAt B w0 w P st (.slice (some ⟨g, 0, none⟩) us.length gc) vp us) {j : Nat} {u : Value} (hu : us[j]? = some u) : w.cell? ⟨g, j, none⟩ = some u := by
  have := h.thr.cells (g := g) rfl j u hu
  rwa [addr_at] at this
theorem thr_frozen {B : Nat} {w0 w : World} {P : Nat} {st : PS} {vp : Value} {us : List Value} {g gc : Nat} (h : ParAt B w0 w P st (.slice (some ⟨g, 0, none⟩) us.length gc) vp us) (j : Nat) : w.frozen? ⟨g, j, none⟩ = false := by
  obtain ⟨_, cur, hc⟩ := row_kind h.thr (g := g) rfl
  exact blk_frozen hc j
theorem five_new (w : World) (a b : Int) (k : ByteArray) (c d : Int) (T : TypeId) : ∀ j u, ([.int .i64 a, .int .i64 b, .string k, .int .u64 c, .int .u64 d] : List Value)[j]? = some u → (w.alloc (.cells #[.int .i64 a, .int .i64 b, .string k, .int .u64 c, .int .u64 d] T)).drew.cell? ((⟨w.heap.size, 0, none⟩ : Addr).add j) = some u := by
  intro j u h
  rw [addr_at]
  show (w.alloc _).cell? _ = _
  rw [blk_cell (MapKept.heap_alloc w _).1]
  simpa using h
theorem five_one (a b : Int) (k : ByteArray) (c d : Int) : ∀ u ∈ ([.int .i64 a, .int .i64 b, .string k, .int .u64 c, .int .u64 d] : List Value), u.oneCell' = true := by
  intro u hu
  simp only [List.mem_cons, List.not_mem_nil, or_false] at hu
  rcases hu with rfl | rfl | rfl | rfl | rfl <;> rfl
theorem grown_drew {w w' : World} {o : Obj} {row : Option Nat} (hg : (w.alloc o).drew.grownBy w' row) {k : Nat} (hk : k < w.heap.size) (hr : row ≠ some k) : w'.heap[k]? = w.heap[k]? := by
  have := hg.block k (by show k < (w.alloc o).heap.size; simp; omega) (fun e => hr e.symm)
  rw [this]
  exact Below.heap_alloc _ _ _ hk
theorem thr_other {B : Nat} {w0 w : World} {P : Nat} {st : PS} {vp u : Value} {us xs : List Value} {g gc n : Nat} (h : ParAt B w0 w P st (.slice (some ⟨g, 0, none⟩) us.length gc) vp us) (hu : w.ownsRow B 39 5 u n xs) : u.ownBlock ≠ some g := by
  obtain ⟨_, cur, hc⟩ := row_kind h.thr (g := g) rfl
  exact row_ne hu hc (by decide)
theorem step_op {ops : Array Oper} {o : Oper} {a : Act} {K : Act → World → Prop} {Q : Exit → Act → World → Prop} {E : Prop} (hgd : o.guard = none) (s x : Operand) (ho : o.op = .call { callee := .builtin .append, args := #[s, x], argTypes := #[49, 49] })
    (B : Nat) (W : World) (u : Value) (n : Nat) (xs : List Value) (hown : W.ownsRow B 39 5 u n xs) (hs : a.eval s = u) (ad : Addr) (hx : a.eval x = .slice (some ad) 1 1) (ys : List Value) (hy : ys.length = 5) (hc : ∀ j v, ys[j]? = some v → W.cell? (ad.add j) = some v) (h1 : ∀ v ∈ ys, v.oneCell' = true) (hB : B ≤ W.heap.size) (hn : n ≤ 1048576)
    (hK : ∀ a' c' w', w'.ownsRow B 39 5 (.slice a' (n + 1) c') (n + 1) (xs ++ ys) → W.grownBy w' u.ownBlock → (∀ b, (Value.slice a' (n + 1) c').ownBlock = some b → u.ownBlock = some b ∨ W.heap.size ≤ b) → K (a.put o.dst (.slice a' (n + 1) c')) w') : if Region.wanted o (yielded ops a.tmps) = true then Oper.wp Tryd.prog o a W K Q else E := by
  have hw : Region.wanted o (yielded ops a.tmps) = true := by simp [Region.wanted, hgd]
  rw [if_pos hw]
  obtain ⟨v', w', hr, ho', hg, hnew⟩ := run_append_op o.type B W u n xs hown ad ys hy hc h1 hB hn
  obtain ⟨a', c', rfl⟩ := row_form ho'
  unfold Oper.wp execOp
  simp only [ho, resolve, invoke, builtin, Sem.run_bind, Sem.run_pure, Result.andThen_ok, List.map_toArray, List.map_cons, List.map_nil, hs, hx, hr]
  exact hK a' c' w' ho' hg hnew
theorem op_new {B : Nat} {w0 W w6 : World} {P : Nat} {st : PS} {vp u u' : Value} {us : List Value} {g gc : Nat} {ts : List (List OpD)} {t : List OpD} (h : ParAt B w0 W P st (.slice (some ⟨g, 0, none⟩) us.length gc) vp us) (hts : st.scr.threads = ts ++ [t]) (hu : us[ts.length]? = some u)
    {n0 n1 : Int} {k : ByteArray} {n3 n4 : Int} {T : TypeId} (hr : W.ownsRow B 39 5 u t.length (t.flatMap opC)) (hg : (W.alloc (.cells #[.int .i64 n0, .int .i64 n1, .string k, .int .u64 n3, .int .u64 n4] T)).drew.grownBy w6 u.ownBlock)
    (hown : w6.ownsRow B 39 5 u' (t.length + 1) (t.flatMap opC ++ [.int .i64 n0, .int .i64 n1, .string k, .int .u64 n3, .int .u64 n4])) (hnew : ∀ b, u'.ownBlock = some b → u.ownBlock = some b ∨ (W.alloc (.cells #[.int .i64 n0, .int .i64 n1, .string k, .int .u64 n3, .int .u64 n4] T)).drew.heap.size ≤ b) :
    ParAt B w0 (w6.setCell ⟨g, ts.length, none⟩ u') P { st with scr := { st.scr with threads := addOp st.scr.threads ⟨n0, n1, k, n3, n4⟩ } } (.slice (some ⟨g, 0, none⟩) us.length gc) vp (us.set ts.length u') := by
  have ha : Below W.heap.size W (W.alloc (.cells #[.int .i64 n0, .int .i64 n1, .string k, .int .u64 n3, .int .u64 n4] T)).drew := ((Below.refl _ _).alloc (Nat.le_refl _) _).drew
  exact (h.above ha).op hts hu hg ⟨n0, n1, k, n3, n4⟩ hown hnew
def OpMid (B : Nat) (w0 : World) (P : Nat) (st : PS) (z : Nat) (n0 n1 : Int) (k : ByteArray) (n3 n4 : Int) (b0 b1 b2 b3 b4 : Bool) (wx : World) : Prop :=
  Par B w0 wx P { st with scr := { st.scr with threads := addOp st.scr.threads ⟨n0, n1, k, n3, n4⟩ } } ∧ wx.heap[z]? = some (.cells #[.bool b0, .bool b1, .bool b2, .bool b3, .bool b4] 101 (0, 0))
theorem op_end_no {st : PS} {a b k v x : List UInt8} {n0 n1 n3 n4 : Int} {n2 : List UInt8} {b0 b1 b2 b3 b4 : Bool} (h0 : (n0, b0) = intR a) (h1 : (n1, b1) = intR b) (h2 : (n2, b2) = keyR k) (h3 : (n3, b3) = natR v) (h4 : (n4, b4) = natR x) (h : (b0 && (b1 && (b2 && (b3 && b4)))) = false) : opR st [a, b, k, v, x] = none := by
  apply opR_no
  rw [← h0, ← h1, ← h2, ← h3, ← h4]
  simp only
  rintro ⟨rfl, rfl, rfl, rfl, rfl⟩
  simp at h
theorem op_end_yes {st : PS} {a b k v x : List UInt8} {n0 n1 n3 n4 : Int} {n2 : List UInt8} (ht : st.scr.threads ≠ []) (h0 : (n0, true) = intR a) (h1 : (n1, true) = intR b) (h2 : (n2, true) = keyR k) (h3 : (n3, true) = natR v) (h4 : (n4, true) = natR x) :
    opR st [a, b, k, v, x] = some { st with scr := { st.scr with threads := addOp st.scr.threads ⟨n0, n1, ⟨n2.toArray⟩, n3, n4⟩ } } := by
  rw [opR_yes ht (by rw [← h0]) (by rw [← h1]) (by rw [← h2]) (by rw [← h3]) (by rw [← h4])]
  unfold opD
  rw [← h0, ← h1, ← h2, ← h3, ← h4]
set_option maxRecDepth 100000 in
set_option maxHeartbeats 4000000 in
theorem op_five (B : Nat) (w0 w : World) (P : Nat) (st : PS) (vp : Value) (us : List Value) (g gc : Nat) (h : ParAt B w0 w P st (.slice (some ⟨g, 0, none⟩) us.length gc) vp us) (ts : List (List OpD)) (t : List OpD) (hts : st.scr.threads = ts ++ [t]) (hlim : ts.length ≤ 1048576) (hlt : t.length ≤ 1048576) (a b k v x : List UInt8) (wb off cap : Nat)
    (hx : ∀ y ∈ [a, b, k, v, x], y.length ≤ 1048576) (hw : WordsIn w wb off [a, b, k, v, x]) :
    Calls Tryd.prog 53 #[.pointer (some ⟨P, 0, none⟩), .slice (some ⟨wb, off, none⟩) 5 cap] w (LinePost B w0 P (opR st [a, b, k, v, x])) := by
  have H := Lib.hid h
  obtain ⟨⟨cs, hcs⟩, hcell⟩ := hw (by simp)
  have hbz : wb < w.heap.size := (Array.getElem?_eq_some_iff.1 hcs).1
  have hlen : us.length = ts.length + 1 := by rw [h.hus, hts]; simp
  have ne0 : st.scr.threads ≠ [] := by rw [hts]; simp
  have NE := Lib.hid ne0
  have HT := Lib.hid hts
  have HL := Lib.hid hlen
  have hul : (us.length : Int) - 1 = (ts.length : Int) := by omega
  have hu1 : us.length ≤ 1048577 := by omega
  have hu0 : 1 ≤ us.length := by omega
  have y1 : w.cell? ⟨P, 1, none⟩ = some (.slice (some ⟨g, 0, none⟩) us.length gc) := h.cell 1
  have hP := h.lt
  have z0 : (⟨a.toArray⟩ : ByteArray).size ≤ 4611686018427387904 := by
    have := hx a (by simp)
    simp [ByteArray.size]; omega
  have Z0 := Lib.hid z0
  obtain ⟨r0, hr0⟩ : ∃ r, r = intR a := ⟨_, rfl⟩
  obtain ⟨n0, b0⟩ := r0
  have R0 := Lib.hid hr0
  have C0 : ∀ W, Calls Tryd.prog 64 #[.string ⟨a.toArray⟩] W fun e w' => e = .returned (.tuple #[.int .i64 n0, .bool b0]) ∧ Below W.heap.size W w' := fun W => by
    have := signed_any ⟨a.toArray⟩ W z0
    rw [show (ByteArray.mk a.toArray).data.toList = a by simp, ← hr0] at this
    exact this
  have K0 := Lib.hid C0
  have w0c := hcell 0 a rfl
  have WC0 := Lib.hid w0c
  clear z0 hr0 C0 w0c
  have z1 : (⟨b.toArray⟩ : ByteArray).size ≤ 4611686018427387904 := by
    have := hx b (by simp)
    simp [ByteArray.size]; omega
  have Z1 := Lib.hid z1
  obtain ⟨r1, hr1⟩ : ∃ r, r = intR b := ⟨_, rfl⟩
  obtain ⟨n1, b1⟩ := r1
  have R1 := Lib.hid hr1
  have C1 : ∀ W, Calls Tryd.prog 64 #[.string ⟨b.toArray⟩] W fun e w' => e = .returned (.tuple #[.int .i64 n1, .bool b1]) ∧ Below W.heap.size W w' := fun W => by
    have := signed_any ⟨b.toArray⟩ W z1
    rw [show (ByteArray.mk b.toArray).data.toList = b by simp, ← hr1] at this
    exact this
  have K1 := Lib.hid C1
  have w1c := hcell 1 b rfl
  have WC1 := Lib.hid w1c
  clear z1 hr1 C1 w1c
  have z2 : (⟨k.toArray⟩ : ByteArray).size ≤ 1048576 := by
    have := hx k (by simp)
    simp [ByteArray.size]; omega
  have Z2 := Lib.hid z2
  obtain ⟨r2, hr2⟩ : ∃ r, r = keyR k := ⟨_, rfl⟩
  obtain ⟨n2, b2⟩ := r2
  have R2 := Lib.hid hr2
  have C2 : ∀ W, Calls Tryd.prog 65 #[.string ⟨k.toArray⟩] W fun e w' => e = .returned (.tuple #[.string ⟨n2.toArray⟩, .bool b2]) ∧ Below W.heap.size W w' := fun W => by
    have := keyw_any ⟨k.toArray⟩ W z2
    rw [show (ByteArray.mk k.toArray).data.toList = k by simp, ← hr2] at this
    exact this
  have K2 := Lib.hid C2
  have w2c := hcell 2 k rfl
  have WC2 := Lib.hid w2c
  clear z2 hr2 C2 w2c
  have z3 : (⟨v.toArray⟩ : ByteArray).size ≤ 4611686018427387904 := by
    have := hx v (by simp)
    simp [ByteArray.size]; omega
  have Z3 := Lib.hid z3
  obtain ⟨r3, hr3⟩ : ∃ r, r = natR v := ⟨_, rfl⟩
  obtain ⟨n3, b3⟩ := r3
  have R3 := Lib.hid hr3
  have C3 : ∀ W, Calls Tryd.prog 63 #[.string ⟨v.toArray⟩] W fun e w' => e = .returned (.tuple #[.int .u64 n3, .bool b3]) ∧ Below W.heap.size W w' := fun W => by
    have := unsigned_any ⟨v.toArray⟩ W z3
    rw [show (ByteArray.mk v.toArray).data.toList = v by simp, ← hr3] at this
    exact this
  have K3 := Lib.hid C3
  have w3c := hcell 3 v rfl
  have WC3 := Lib.hid w3c
  clear z3 hr3 C3 w3c
  have z4 : (⟨x.toArray⟩ : ByteArray).size ≤ 4611686018427387904 := by
    have := hx x (by simp)
    simp [ByteArray.size]; omega
  have Z4 := Lib.hid z4
  obtain ⟨r4, hr4⟩ : ∃ r, r = natR x := ⟨_, rfl⟩
  obtain ⟨n4, b4⟩ := r4
  have R4 := Lib.hid hr4
  have C4 : ∀ W, Calls Tryd.prog 63 #[.string ⟨x.toArray⟩] W fun e w' => e = .returned (.tuple #[.int .u64 n4, .bool b4]) ∧ Below W.heap.size W w' := fun W => by
    have := unsigned_any ⟨x.toArray⟩ W z4
    rw [show (ByteArray.mk x.toArray).data.toList = x by simp, ← hr4] at this
    exact this
  have K4 := Lib.hid C4
  have w4c := hcell 4 x rfl
  have WC4 := Lib.hid w4c
  clear z4 hr4 C4 w4c
  clear h hx hw hcell hts hlen ne0
  have S0 := Lib.hid (OpSt.start w #[.int .i64 0, .int .i64 0, .string ⟨#[]⟩, .int .u64 0, .int .u64 0] #[.bool false, .bool false, .bool false, .bool false, .bool false])
  have c0 : ((w.alloc (.cells #[.int .i64 0, .int .i64 0, .string ⟨#[]⟩, .int .u64 0, .int .u64 0] 39)).alloc (.cells #[.bool false, .bool false, .bool false, .bool false, .bool false] 101)).cell? ⟨wb, off, none⟩ = some (.string ⟨a.toArray⟩) := (S0.out.bw.cell (p := ⟨wb, off, none⟩) hbz).trans WC0.out
  go_enter Tryd.func53, Tryd.ntmps53
  go_wp2_with fail
  refine (K0.out _).mono ?_
  rintro e w1 ⟨rfl, hb1⟩
  have T1 := Lib.hid (S0.out.call hb1)
  have S1 := Lib.hid (T1.out.put 0 (.int .i64 n0) (.bool b0))
  have q1 : w1.cell? ⟨w.heap.size, 0, none⟩ = some (.int .i64 0) := blk_cell T1.out.q 0
  have v1 : w1.cell? ⟨w.heap.size + 1, 0, none⟩ = some (.bool false) := blk_cell T1.out.v 0
  have qf1 := blk_frozen T1.out.q 0
  have vf1 := blk_frozen T1.out.v 0
  have c1 : ((w1.setCell ⟨w.heap.size, 0, none⟩ (.int .i64 n0)).setCell ⟨w.heap.size + 1, 0, none⟩ (.bool b0)).cell? ⟨wb, off + 1, none⟩ = some (.string ⟨b.toArray⟩) := (S1.out.bw.cell (p := ⟨wb, off + 1, none⟩) hbz).trans WC1.out
  clear hb1 c0 S0
  go_wp2_with fail
  clear q1 v1 qf1 vf1 T1
  refine (K1.out _).mono ?_
  rintro e w2 ⟨rfl, hb2⟩
  have T2 := Lib.hid (S1.out.call hb2)
  have S2 := Lib.hid (T2.out.put 1 (.int .i64 n1) (.bool b1))
  have q2 : w2.cell? ⟨w.heap.size, 1, none⟩ = some (.int .i64 0) := blk_cell T2.out.q 1
  have v2 : w2.cell? ⟨w.heap.size + 1, 1, none⟩ = some (.bool false) := blk_cell T2.out.v 1
  have qf2 := blk_frozen T2.out.q 1
  have vf2 := blk_frozen T2.out.v 1
  have c2 : ((w2.setCell ⟨w.heap.size, 1, none⟩ (.int .i64 n1)).setCell ⟨w.heap.size + 1, 1, none⟩ (.bool b1)).cell? ⟨wb, off + 2, none⟩ = some (.string ⟨k.toArray⟩) := (S2.out.bw.cell (p := ⟨wb, off + 2, none⟩) hbz).trans WC2.out
  clear hb2 c1 S1
  go_wp2_with fail
  clear q2 v2 qf2 vf2 T2
  refine (K2.out _).mono ?_
  rintro e w3 ⟨rfl, hb3⟩
  have T3 := Lib.hid (S2.out.call hb3)
  have S3 := Lib.hid (T3.out.put 2 (.string ⟨n2.toArray⟩) (.bool b2))
  have q3 : w3.cell? ⟨w.heap.size, 2, none⟩ = some (.string ⟨#[]⟩) := blk_cell T3.out.q 2
  have v3 : w3.cell? ⟨w.heap.size + 1, 2, none⟩ = some (.bool false) := blk_cell T3.out.v 2
  have qf3 := blk_frozen T3.out.q 2
  have vf3 := blk_frozen T3.out.v 2
  have c3 : ((w3.setCell ⟨w.heap.size, 2, none⟩ (.string ⟨n2.toArray⟩)).setCell ⟨w.heap.size + 1, 2, none⟩ (.bool b2)).cell? ⟨wb, off + 3, none⟩ = some (.string ⟨v.toArray⟩) := (S3.out.bw.cell (p := ⟨wb, off + 3, none⟩) hbz).trans WC3.out
  clear hb3 c2 S2
  go_wp2_with fail
  clear q3 v3 qf3 vf3 T3
  refine (K3.out _).mono ?_
  rintro e w4 ⟨rfl, hb4⟩
  have T4 := Lib.hid (S3.out.call hb4)
  have S4 := Lib.hid (T4.out.put 3 (.int .u64 n3) (.bool b3))
  have q4 : w4.cell? ⟨w.heap.size, 3, none⟩ = some (.int .u64 0) := blk_cell T4.out.q 3
  have v4 : w4.cell? ⟨w.heap.size + 1, 3, none⟩ = some (.bool false) := blk_cell T4.out.v 3
  have qf4 := blk_frozen T4.out.q 3
  have vf4 := blk_frozen T4.out.v 3
  have c4 : ((w4.setCell ⟨w.heap.size, 3, none⟩ (.int .u64 n3)).setCell ⟨w.heap.size + 1, 3, none⟩ (.bool b3)).cell? ⟨wb, off + 4, none⟩ = some (.string ⟨x.toArray⟩) := (S4.out.bw.cell (p := ⟨wb, off + 4, none⟩) hbz).trans WC4.out
  clear hb4 c3 S3
  go_wp2_with fail
  clear q4 v4 qf4 vf4 T4
  refine (K4.out _).mono ?_
  rintro e w5 ⟨rfl, hb5⟩
  have T5 := Lib.hid (S4.out.call hb5)
  have S5 := Lib.hid (T5.out.put 4 (.int .u64 n4) (.bool b4))
  have q5 : w5.cell? ⟨w.heap.size, 4, none⟩ = some (.int .u64 0) := blk_cell T5.out.q 4
  have v5 : w5.cell? ⟨w.heap.size + 1, 4, none⟩ = some (.bool false) := blk_cell T5.out.v 4
  have qf5 := blk_frozen T5.out.q 4
  have vf5 := blk_frozen T5.out.v 4
  clear hb5 c4 S4
  go_upto_region 11 with fail
  clear q5 v5 qf5 vf5 T5 K0 K1 K2 K3 K4 Z0 Z1 Z2 Z3 Z4 WC0 WC1 WC2 WC3 WC4
  have s5 : OpSt w #[.int .i64 n0, .int .i64 n1, .string ⟨n2.toArray⟩, .int .u64 n3, .int .u64 n4] #[.bool b0, .bool b1, .bool b2, .bool b3, .bool b4] ((w5.setCell ⟨w.heap.size, 4, none⟩ (.int .u64 n4)).setCell ⟨w.heap.size + 1, 4, none⟩ (.bool b4)) := S5.out
  generalize hW : (w5.setCell ⟨w.heap.size, 4, none⟩ (.int .u64 n4)).setCell ⟨w.heap.size + 1, 4, none⟩ (.bool b4) = W at s5 ⊢
  clear hW S5 y1
  have H5 := Lib.hid (H.out.above s5.bw)
  obtain ⟨u, hu⟩ : ∃ u, us[ts.length]? = some u := ⟨_, List.getElem?_eq_getElem (by have := HL.out; omega)⟩
  have hu5 := H5.out.ops _ _ _ hu (by rw [HT.out]; simp : st.scr.threads[ts.length]? = some t)
  obtain ⟨ua, uc, rfl⟩ := row_form hu5
  have U5 := Lib.hid hu5
  have HU := Lib.hid hu
  have hgz : g < W.heap.size := row_lt H5.out.thr rfl
  have hPz : P < W.heap.size := H5.out.lt
  have hQz : w.heap.size < W.heap.size := by have := s5.lt; omega
  have y1 : W.cell? ⟨P, 1, none⟩ = some (.slice (some ⟨g, 0, none⟩) us.length gc) := H5.out.cell 1
  have y2 : W.cell? ⟨g, ts.length, none⟩ = some (.slice ua t.length uc) := thr_at H5.out hu
  have yf : W.frozen? ⟨g, ts.length, none⟩ = false := thr_frozen H5.out _
  have o0 : W.cell? ⟨w.heap.size, 0, none⟩ = some (.int .i64 n0) := blk_cell s5.q 0
  have o1 : W.cell? ⟨w.heap.size, 1, none⟩ = some (.int .i64 n1) := blk_cell s5.q 1
  have o2 : W.cell? ⟨w.heap.size, 2, none⟩ = some (.string ⟨n2.toArray⟩) := blk_cell s5.q 2
  have o3 : W.cell? ⟨w.heap.size, 3, none⟩ = some (.int .u64 n3) := blk_cell s5.q 3
  have o4 : W.cell? ⟨w.heap.size, 4, none⟩ = some (.int .u64 n4) := blk_cell s5.q 4
  have S5 := Lib.hid s5
  have j0 : (0 : Int) ≤ (ts.length : Int) := by omega
  have j1 : (ts.length : Int) < us.length := by have := HL.out; omega
  clear hu hu5 s5
  go_cut [] (fun wx => OpMid B w0 P st (w.heap.size + 1) n0 n1 ⟨n2.toArray⟩ n3 n4 b0 b1 b2 b3 b4 wx)
  case first =>
    go_region_law ((refine step_op rfl _ _ rfl B _ _ _ _ (U5.out.alloc _).drew rfl ⟨W.heap.size, 0, none⟩ rfl [.int .i64 n0, .int .i64 n1, .string ⟨n2.toArray⟩, .int .u64 n3, .int .u64 n4] rfl (five_new W _ _ _ _ _ _) (five_one _ _ _ _ _) (Nat.le_trans H5.out.size (by simp)) hlt ?_); intro a6 c6 w6 ho6 hg6 hn6; (have O6 := Lib.hid ho6); (have G6 := Lib.hid hg6); (have N6 := Lib.hid hn6); (have z1 := (World.cell?_of_block (a := ⟨P, 1, none⟩) (grown_drew G6.out hPz (row_ne U5.out H5.out.par (by decide)))).trans y1); (have z2 := (World.cell?_of_block (a := ⟨g, ts.length, none⟩) (grown_drew G6.out hgz (thr_other H5.out U5.out))).trans y2); (have zf := (World.frozen?_of_block (a := ⟨g, ts.length, none⟩) (grown_drew G6.out hgz (thr_other H5.out U5.out))).trans yf); clear ho6 hg6 hn6)
    all_goals
      have hv := S5.out.v
      have S6v := (grown_drew G6.out S5.out.lt (row_ne U5.out hv (by decide))).trans hv
      have hgQ : g < w.heap.size := row_lt H.out.thr rfl
      have NEW := Lib.hid (op_new H5.out HT.out HU.out U5.out G6.out O6.out N6.out)
      have S6 := Lib.hid S6v
      clear z1 z2 zf y1 y2 yf o0 o1 o2 o3 o4 S6v hv
      go_wp2_with fail
      go_meet
      exact ⟨⟨_, _, _, NEW.out⟩, (Below.heap_setCell _ _ _ _ (by simp; omega)).trans S6.out⟩
  case rest =>
    obtain ⟨hp, hv⟩ := hcut
    have HP := Lib.hid hp
    have HV := Lib.hid hv
    have x0 := blk_cell hv 0
    have x1 := blk_cell hv 1
    have x2 := blk_cell hv 2
    have x3 := blk_cell hv 3
    have x4 := blk_cell hv 4
    clear hp hv y1 y2 yf o0 o1 o2 o3 o4
    go_wp2_with (refine wpList_five _ rfl _ _ rfl b0 b1 b2 b3 b4 rfl rfl ?_)
    go_ret
    obtain ⟨vt', vp', us', hq⟩ := HP.out
    cases hb : (b0 && (b1 && (b2 && (b3 && b4)))) with
    | false => exact LinePost.no (op_end_no (st := st) R0.out R1.out R2.out R3.out R4.out hb) hq.below
    | true =>
      simp only [Bool.and_eq_true] at hb
      obtain ⟨rfl, rfl, rfl, rfl, rfl⟩ := hb
      exact LinePost.yes (op_end_yes (st := st) NE.out R0.out R1.out R2.out R3.out R4.out) ⟨vt', vp', us', hq⟩
end Go.Proofs.YtnoeiaicligmiaaDoor

