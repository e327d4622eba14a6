/- A buffer of bytes that a call owns, carried from append to append; beside it every block that holds no bytes is kept. The walks of package model, second part: refusal, set, remove. The walks of package model, third part: set, remove. -/
import Derived.Test.YtbmoehndnbbhcaaGreatDoorLaidS
import Derived.Test.YtbmoehndnbbhcaaGreatDoorMZYa
import Derived.OwnWalk
import Derived.Lib.AppendStr
import Derived.Lib.OthersKept
import Derived.Test.YtbmoehndnbbhcaaGreatDoorMModA
import Derived.Test.YtbmoehndnbbhcaaGreatDoorMFamB
import Derived.Test.YtbmoehndnbbhcaaGreatDoorMAbs
import Derived.Maps.Own
import Derived.Maps.OwnSet
namespace Go.Proofs.YtbmoehndnbbhcaaGreatDoor
set_option linter.unusedVariables false
set_option linter.unusedSimpArgs false
open Go Go.RowKit Go.MapKept
def natT (v : Int) : List UInt8 := Lib.decDigits v.toNat
def tabName : String := "internal/strconv.uint64pow10"
def TabB (B : Nat) (w : World) : Prop := Lib.TabBelow Tryz.prog B w "internal/strconv.uint64pow10" .u64 Lib.pow10Tab
structure Buf (B : Nat) (w0 w : World) (v : Value) (l : List UInt8) : Prop where
  own : w.ownsRow B 5 1 v l.length (Lib.byteCells l)
  below : Below B w0 w
  kept : Lib.OthersKept 5 none w0 w
  size : B ≤ w.heap.size
theorem kept_grown {w w' : World} {B : Nat} {v : Value} {n : Nat} {xs : List Value} (ho : w.ownsRow B 5 1 v n xs) (hg : w.grownBy w' v.ownBlock) : Lib.OthersKept 5 none w w' := by
  intro k o hk _ hno
  have hlt : k < w.heap.size := (Array.getElem?_eq_some_iff.1 hk).1
  rw [hg.block k hlt ?_]
  · exact hk
  · intro he
    rcases ho.2 with ⟨h0, _⟩ | ⟨g, cap, cur, hv, _, hb, _⟩
    · rw [h0] at he; simp [Value.ownBlock] at he
    · rw [hv] at he
      simp [Value.ownBlock] at he
      subst he
      rw [hb] at hk
      simp only [Option.some.injEq] at hk
      exact hno _ _ hk.symm
theorem own_base {w : World} {B : Nat} {v : Value} {n : Nat} {xs : List Value} (ho : w.ownsRow B 5 1 v n xs) : ∀ k, v.ownBlock = some k → B ≤ k := by
  intro k he
  rcases ho.2 with ⟨h0, _⟩ | ⟨g, cap, cur, hv, hb, _⟩
  · rw [h0] at he; simp [Value.ownBlock] at he
  · rw [hv] at he
    simp [Value.ownBlock] at he
    omega
theorem Buf.alloc {B : Nat} {w0 w : World} {v : Value} {l : List UInt8} (h : Buf B w0 w v l) (o : Obj) : Buf B w0 (w.alloc o) v l :=
  ⟨h.own.alloc o, h.below.alloc h.size o, fun k x hk hn hx => by
    have := h.kept k x hk hn hx
    rw [Below.heap_alloc _ _ _ ((Array.getElem?_eq_some_iff.1 this).1)]
    exact this, by have := h.size; simp; omega⟩
theorem Buf.drew {B : Nat} {w0 w : World} {v : Value} {l : List UInt8} (h : Buf B w0 w v l) : Buf B w0 w.drew v l :=
  ⟨h.own, h.below.drew, h.kept, h.size⟩
theorem Buf.grown {B : Nat} {w0 w w' : World} {v v' : Value} {l l' : List UInt8} (h : Buf B w0 w v l) (ho : w'.ownsRow B 5 1 v' l'.length (Lib.byteCells l')) (hg : w.grownBy w' v.ownBlock) : Buf B w0 w' v' l' :=
  ⟨ho, h.below.grown hg h.size (own_base h.own), h.kept.trans (kept_grown h.own hg), Nat.le_trans h.size hg.size⟩
theorem Buf.block {B : Nat} {w0 w : World} {v : Value} {l : List UInt8} (h : Buf B w0 w v l) {k : Nat} {c : Array Value} {t : TypeId} {f : Nat × Nat} (hb : w0.heap[k]? = some (.cells c t f)) (ht : t ≠ 5) : w.heap[k]? = some (.cells c t f) :=
  h.kept k _ hb (by simp) (fun c' f' e => by simp only [Obj.cells.injEq] at e; exact ht e.2.1)
theorem byte_info : (Tryz.prog.info? 5).map (fun i => (i.zero, i.size, i.bytes)) = some (some (.int .u8 0), 1, 1) := by kernel_rfl
theorem addr_at (g n : Nat) : ((⟨g, 0, none⟩ : Addr).add n) = ⟨g, n, none⟩ := by
  unfold Addr.add
  split
  · subst n; rfl
  · simp
/-- new bytes, in a block of their own -/
theorem cells_new (w : World) (bs : List UInt8) (T : TypeId) : ∀ j u, (Lib.byteCells bs)[j]? = some u → (w.alloc (.cells (Lib.byteCells bs).toArray T)).cell? ((⟨w.heap.size, 0, none⟩ : Addr).add j) = some u := by
  intro j u h
  rw [addr_at, blk_cell (MapKept.heap_alloc w _).1]
  simpa using h
theorem bytes_one (bs : List UInt8) : ∀ u ∈ Lib.byteCells bs, u.oneCell' = true := by
  intro u hu
  obtain ⟨b, _, rfl⟩ := List.mem_map.1 hu
  rfl
section
variable {ops : Array Oper} {rest : List Oper} {o : Oper} {a : Act} {Q : Exit → Act → World → Prop}
theorem wpList_buf_new (hgd : o.guard = none) (s x : Operand) (ho : o.op = .call { callee := .builtin .append, args := #[s, x], argTypes := #[130, 130] })
    (B : Nat) (w0 w : World) (v : Value) (l : List UInt8) (hb : Buf B w0 w v l) (hs : a.eval s = v) (bs : List UInt8) (cs : Array Value) (hcs : cs = (Lib.byteCells bs).toArray) (m : Nat) (hm : bs.length = m)
    (hx : a.eval x = .slice (some ⟨w.heap.size, 0, none⟩) m m) (hlen : l.length + m ≤ 140737488355328)
    (h : ∀ v' w', Buf B w0 w' v' (l ++ bs) → wpList Tryz.prog ops Q rest (a.put o.dst v') w') : wpList Tryz.prog ops Q (o :: rest) a (w.alloc (.cells cs 5)) := by
  subst hcs
  subst hm
  obtain ⟨i0, hi, hz0, hz1, hz2⟩ := info_parts byte_info
  have hb' := hb.alloc (.cells (Lib.byteCells bs).toArray 5)
  refine wpList_append_own _ hgd s x 130 ho B 5 i0 (.int .u8 0) 1 1 Tryz.underlying130 hi hz0 hz1 hz2 rfl (by decide) v l.length (Lib.byteCells l) hs hb'.own ⟨w.heap.size, 0, none⟩ bs.length bs.length (Lib.byteCells bs) hx (by simp [Lib.byteCells]) (cells_new w bs _) (bytes_one bs) (by unfold maxLen; omega) (by omega) hb'.size ?_
  intro v' w' ho' hg _
  refine h v' w' (hb'.grown (l' := l ++ bs) ?_ hg)
  rw [Lib.byteCells_append, List.length_append]
  exact ho'
theorem wpList_buf_text (hgd : o.guard = none) (s x : Operand) (ho : o.op = .call { callee := .builtin .append, args := #[s, x], argTypes := #[130, 9] })
    (B : Nat) (w0 w : World) (v : Value) (l : List UInt8) (hb : Buf B w0 w v l) (hs : a.eval s = v) (t : ByteArray) (hx : a.eval x = .string t) (hlen : l.length + t.size ≤ 140737488355328)
    (h : ∀ v' w', Buf B w0 w' v' (l ++ t.data.toList) → wpList Tryz.prog ops Q rest (a.put o.dst v') w') : wpList Tryz.prog ops Q (o :: rest) a w := by
  obtain ⟨i0, hi, hz0, hz1, hz2⟩ := info_parts byte_info
  refine Lib.wpList_append_own_string w hgd s x 130 9 ho B 5 i0 Tryz.underlying130 Tryz.underlying9 hi hz0 hz1 hz2 v l.length (Lib.byteCells l) hs hb.own t hx (by unfold maxLen; omega) hlen hb.size ?_
  intro v' w' ho' hg _
  refine h v' w' (hb.grown (l' := l ++ t.data.toList) ?_ hg)
  rw [Lib.byteCells_append, List.length_append, ← Lib.size_eq]
  exact ho'
end
/-! ### numbers -/
theorem buf_int (B : Nat) (w0 w : World) (v : Value) (l : List UInt8) (h : Buf B w0 w v l) (tb : TabB B w0) (i : Int) (h0 : -9223372036854775808 ≤ i) (h1 : i ≤ 9223372036854775807) (hl : l.length + 21 ≤ 140737488355328) :
    Calls Tryz.prog 58 #[v, .int .i64 i, .int .i64 10] w fun e w' => ∃ v', e = .returned v' ∧ Buf B w0 w' v' (l ++ Lib.itoa i) := by
  refine (Tryz.strconv_AppendInt_10 B l.length i h0 h1 v (Lib.byteCells l) w h.own h.size hl (tb.on h.below)).mono fun e w' ⟨v', he, ho, hb, hk⟩ => ⟨v', he, ?_, h.below.trans hb, h.kept.trans hk, Nat.le_trans h.size hb.size⟩
  rw [Lib.byteCells_append, List.length_append]
  exact ho
theorem uint_any (B : Nat) (w0 w : World) (v : Value) (l : List UInt8) (h : Buf B w0 w v l) (tb : TabB B w0) (u : Int) (h0 : 0 ≤ u) (h1 : u ≤ 18446744073709551615) (hl : l.length + 20 ≤ 140737488355328) :
    Calls Tryz.prog 72 #[v, .int .u64 u, .int .i64 10] w fun e w' => ∃ v', e = .returned v' ∧ Buf B w0 w' v' (l ++ natT u) := by
  obtain ⟨n, rfl⟩ := Int.eq_ofNat_of_zero_le h0
  refine (Tryz.internal_strconv_AppendUint_10 B l.length n (by omega) v (Lib.byteCells l) w h.own h.size hl (tb.on h.below).here).mono fun e w' ⟨v', he, ho, hb, hk⟩ => ⟨v', he, ?_, h.below.trans hb, h.kept.trans hk, Nat.le_trans h.size hb.size⟩
  rw [Lib.byteCells_append, List.length_append]
  exact ho
theorem buf_uint (B : Nat) (w0 w : World) (v : Value) (l : List UInt8) (h : Buf B w0 w v l) (tb : TabB B w0) (u : Int) (h0 : 0 ≤ u) (h1 : u ≤ 18446744073709551615) (hl : l.length + 20 ≤ 140737488355328) :
    Calls Tryz.prog 60 #[v, .int .u64 u, .int .i64 10] w fun e w' => ∃ v', e = .returned v' ∧ Buf B w0 w' v' (l ++ natT u) := by
  have H := Lib.hid h
  have T := Lib.hid tb
  clear h tb
  go_enter Tryz.func60, Tryz.ntmps60
  go_wp2_with fail
  refine (uint_any B w0 w v l H.out T.out u h0 h1 hl).mono ?_
  rintro e w1 ⟨v', rfl, hb⟩
  have HB := Lib.hid hb
  clear hb
  go_wp2_with fail
  go_ret
  exact ⟨v', rfl, HB.out⟩
def BoolPost (B : Nat) (w0 : World) (l : List UInt8) (e : Ending) (w' : World) : Prop := ∃ v' l', e = .returned v' ∧ Buf B w0 w' v' l' ∧ l'.length ≤ l.length + 5
theorem buf_bool (B : Nat) (w0 w : World) (v : Value) (l : List UInt8) (h : Buf B w0 w v l) (b : Bool) (hl : l.length + 5 ≤ 140737488355328) :
    Calls Tryz.prog 59 #[v, .bool b] w (BoolPost B w0 l) := by
  have H := Lib.hid h
  clear h
  have HI : Hid (Calls Tryz.prog 71 #[v, .bool b] w (BoolPost B w0 l)) := by
    show Calls _ _ _ _ _
    cases b with
    | true =>
      go_enter Tryz.func71, Tryz.ntmps71
      go_wp2_with (at_builtin; refine stopAt ?_)
      unfold StopAt
      refine wpList_buf_text rfl _ _ rfl B w0 w v l H.out rfl ⟨#[116, 114, 117, 101]⟩ rfl (by show l.length + 4 ≤ _; omega) ?_
      intro v' w' hb
      have HB := Lib.hid hb
      clear hb
      go_wp2_with fail
      go_ret
      exact ⟨v', _, rfl, HB.out, by simp⟩
    | false =>
      go_enter Tryz.func71, Tryz.ntmps71
      go_wp2_with (at_builtin; refine stopAt ?_)
      unfold StopAt
      refine wpList_buf_text rfl _ _ rfl B w0 w v l H.out rfl ⟨#[102, 97, 108, 115, 101]⟩ rfl (by show l.length + 5 ≤ _; omega) ?_
      intro v' w' hb
      have HB := Lib.hid hb
      clear hb
      go_wp2_with fail
      go_ret
      exact ⟨v', _, rfl, HB.out, by simp⟩
  go_enter Tryz.func59, Tryz.ntmps59
  go_wp2_with (first | (go_at_call 71; refine stopAt ?_))
  unfold StopAt
  refine HI.out.mono ?_
  rintro e w1 ⟨v', l', rfl, hb, hl'⟩
  have HB := Lib.hid hb
  clear hb
  go_wp2_with fail
  go_ret
  exact ⟨v', l', rfl, HB.out, hl'⟩
end Go.Proofs.YtbmoehndnbbhcaaGreatDoor
namespace Go.Proofs.YtbmoehndnbbhcaaGreatDoor
set_option linter.unusedVariables false
set_option linter.unusedSimpArgs false
open Go.RowKit Go.MapKept
theorem refusal_map (w : World) (bf bm bi : Nat) (F : FamD) (t i : Int) (o : OpD) (h : FamIs w bf bm bi F) (hk : o.key.size ≤ maxLen) (hb : ¬ (numberOf t i < 0 ∨ o.kind < 1 ∨ 13 < o.kind)) (h13 : ¬ o.kind = 13) :
    Calls Tryz.prog 41 #[.pointer (some ⟨bf, 0, none⟩), .int .i64 t, .int .i64 i, o.val] w fun e w' => e = .returned (.int .i64 (refusalD F t i o)) ∧ Below w.heap.size w w' := by
  have X := Lib.hid (show refusalD F t i o = (if unfitD F o != 0 then unfitD F o else if takenD F (numberOf t i) then 8 else 0) by unfold refusalD; rw [if_neg hb, if_neg (by simp [h13])])
  have hA := h.below ((Below.refl w.heap.size w).alloc (Nat.le_refl _) (.cells #[.int .i64 o.kind, .int .i64 o.handle, .string o.key, .int .u64 o.value, .int .u64 o.expect] 60))
  have hu := unfit_any (w.alloc (.cells #[.int .i64 o.kind, .int .i64 o.handle, .string o.key, .int .u64 o.value, .int .u64 o.expect] 60)) bf bm bi F o hA hk
  obtain ⟨kind, handle, key, value, expect⟩ := o
  unfold OpD.val at hu ⊢
  simp only at h13 hb X hA hu
  have hkd : (kind == 13) = false := by simp [h13]
  have hlf := h.lt (k := bf) (Or.inl rfl)
  have hn0 : ¬ numberOf t i < 0 := fun hh => hb (Or.inl hh)
  have hn1 : 1 ≤ kind := by omega
  have hn2 : kind ≤ 13 := by omega
  have T := Lib.hid (show takenD F (numberOf t i) = ((alook F.maps (numberOf t i)).isSome || (alook F.iters (numberOf t i)).isSome) from rfl)
  clear h hb h13
  have HU := Lib.hid hu
  have HA := Lib.hid hA
  clear hu hA
  generalize unfitD F ⟨kind, handle, key, value, expect⟩ = u at *
  by_cases hz : u = 0
  · subst hz
    go_enter Tryz.func41, Tryz.ntmps41
    go_wp2_with (go_at_call 36; refine (number_any _ _ _).mono ?_; rintro e w' ⟨rfl, rfl⟩)
    refine HU.out.mono ?_
    rintro e w1 ⟨rfl, hb1⟩
    have h1 := HA.out.below hb1
    have hlf1 := h1.lt (k := bf) (Or.inl rfl)
    have hlm := h1.lt (k := bm) (Or.inr (Or.inl rfl))
    have hli := h1.lt (k := bi) (Or.inr (Or.inr (Or.inl rfl)))
    obtain ⟨c0, c1, c2⟩ := h1.cell
    obtain ⟨a1, a2, a3⟩ := blocks_alloc hlm
    obtain ⟨b1, b2, b3⟩ := blocks_alloc hli
    obtain ⟨k2, k3⟩ := cells_alloc hlf1
    obtain ⟨x, y, hm⟩ := h1.ask_maps (numberOf t i)
    obtain ⟨x1, y1, z1, hi⟩ := h1.ask_iters (numberOf t i)
    have BB := Lib.hid (Below.trans ((Below.refl w.heap.size w).alloc (Nat.le_refl _) _) (hb1.mono (by simp)))
    clear HA HU h1 hb1
    generalize (alook F.maps (numberOf t i)).isSome = q1 at *
    generalize (alook F.iters (numberOf t i)).isSome = q2 at *
    go_wp2_with fail
    all_goals
      go_ret
      refine ⟨ret_int ?_, (BB.out.alloc (by have := BB.out.size; omega) _).alloc (by have := BB.out.size; simp; omega) _⟩
      rw [X.out, T.out]
      clear X T hm hi a1 a2 a3 b1 b2 b3 c0 c1 c2 k2 k3
      simp_all
  · have hz' : (u != 0) = true := by simp [hz]
    go_enter Tryz.func41, Tryz.ntmps41
    go_wp2_with (go_at_call 36; refine (number_any _ _ _).mono ?_; rintro e w' ⟨rfl, rfl⟩)
    refine HU.out.mono ?_
    rintro e w1 ⟨rfl, hb1⟩
    have BB := Lib.hid (Below.trans ((Below.refl w.heap.size w).alloc (Nat.le_refl _) _) (hb1.mono (by simp)))
    clear HA HU hb1
    go_wp2_with fail
    go_ret
    exact ⟨ret_int (by rw [X.out, hz']; rfl), BB.out⟩
theorem refusal_any (w : World) (bf bm bi : Nat) (F : FamD) (t i : Int) (o : OpD) (h : FamIs w bf bm bi F) (hk : o.key.size ≤ maxLen) :
    Calls Tryz.prog 41 #[.pointer (some ⟨bf, 0, none⟩), .int .i64 t, .int .i64 i, o.val] w fun e w' => e = .returned (.int .i64 (refusalD F t i o)) ∧ Below w.heap.size w w' := by
  by_cases hb : numberOf t i < 0 ∨ o.kind < 1 ∨ 13 < o.kind
  · exact refusal_bad w bf bm bi F t i o h hk hb
  by_cases h13 : o.kind = 13
  · exact refusal_next w bf bm bi F t i o h hk hb h13
  · exact refusal_map w bf bm bi F t i o h hk hb h13
end Go.Proofs.YtbmoehndnbbhcaaGreatDoor
namespace Go.Proofs.YtbmoehndnbbhcaaGreatDoor
set_option linter.unusedVariables false
set_option linter.unusedSimpArgs false
open Go.RowKit Go.MapKept
theorem blocks_alloc4 {w : World} {b : Nat} (hb : b < w.heap.size) (o o2 o3 o4 : Obj) : ((((w.alloc o).alloc o2).alloc o3).alloc o4).heap[b]? = w.heap[b]? := by
  obtain ⟨_, _, a3⟩ := blocks_alloc hb
  rw [Below.heap_alloc _ o4 b (by simp; omega), a3]
/-- the cases of a permission -/
theorem perm_cases {kind expect v : Int} {q : Bool} {f : Option Int} (hq : f.isSome = q) (hv : f.getD 0 = v) (hp : permK kind expect f = true) :
    (kind = 2 ∧ q = false) ∨ (kind = 3 ∧ q = true) ∨ (kind = 4 ∧ q = true ∧ (v == expect) = true) ∨ ((kind == 2) = false ∧ (kind == 3) = false ∧ (kind == 4) = false) := by
  unfold permK at hp
  rw [hq, hv] at hp
  by_cases h2 : kind = 2
  · subst h2; simp at hp; exact Or.inl ⟨rfl, hp⟩
  by_cases h3 : kind = 3
  · subst h3; simp at hp; exact Or.inr (Or.inl ⟨rfl, hp⟩)
  by_cases h4 : kind = 4
  · subst h4; simp at hp; exact Or.inr (Or.inr (Or.inl ⟨rfl, hp.1, by simp [hp.2]⟩))
  · exact Or.inr (Or.inr (Or.inr ⟨by simp [h2], by simp [h3], by simp [h4]⟩))
theorem perm_not {kind expect v : Int} {q : Bool} {f : Option Int} (hq : f.isSome = q) (hv : f.getD 0 = v) (hp : permK kind expect f = false) :
    (kind = 2 ∧ q = true) ∨ (kind = 3 ∧ q = false) ∨ (kind = 4 ∧ q = false) ∨ (kind = 4 ∧ q = true ∧ (v == expect) = false) := by
  unfold permK at hp
  rw [hq, hv] at hp
  by_cases h2 : kind = 2
  · subst h2; simp at hp; exact Or.inl ⟨rfl, hp⟩
  by_cases h3 : kind = 3
  · subst h3; simp at hp; exact Or.inr (Or.inl ⟨rfl, hp⟩)
  by_cases h4 : kind = 4
  · subst h4
    cases q
    · exact Or.inr (Or.inr (Or.inl ⟨rfl, rfl⟩))
    · simp at hp; exact Or.inr (Or.inr (Or.inr ⟨rfl, rfl, by simp [hp]⟩))
  · simp [h2, h3, h4] at hp
set_option maxRecDepth 100000 in
set_option maxHeartbeats 1000000 in
theorem set_yes (w : World) (d : MapD) (o : OpD) (h : ValsIs w d.ref d.vals) (hp : permK o.kind o.expect (alook d.vals o.key) = true) :
    Calls Tryz.prog 42 #[mapV d, o.val] w fun e w' => e = .returned (.agg (setR d.vals o).cells) ∧ ValsIs w' d.ref (setV d.vals o) ∧ Only (· = d.ref) w w' := by
  have X := Lib.hid (show setV d.vals o = aset d.vals o.key o.value from if_pos hp)
  have Y := Lib.hid (show setR d.vals o = { found := (alook d.vals o.key).isSome, value := (alook d.vals o.key).getD 0, count := 1 } by unfold setR; rw [if_pos hp])
  obtain ⟨kind, handle, key, value, expect⟩ := o
  obtain ⟨r, L, ro⟩ := d
  simp only [OpD.val, mapV] at *
  have hlr := h.lt
  obtain ⟨a1, a2, a3⟩ := blocks_alloc hlr
  have a4 := blocks_alloc4 hlr
  have hl := h.look key
  have H := Lib.hid h
  clear h
  have hc := perm_cases rfl rfl hp
  clear hp
  generalize (alook L key).isSome = q at *
  generalize (alook L key).getD 0 = v at *
  rcases hc with ⟨rfl, rfl⟩ | ⟨rfl, rfl⟩ | ⟨rfl, rfl, hv⟩ | ⟨h2, h3, h4⟩
  all_goals
    go_enter Tryz.func42, Tryz.ntmps42
    go_wp2_with (at_mapUpdate; (refine wpList_update_is _ rfl _ _ _ 97 rfl 9 22 Tryz.underlying97 Tryz.underlying9 key_str inj_str ((((H.out.alloc _).alloc _).alloc _).alloc _) rfl key rfl value rfl ?_); intro w1 hm1 ht1; (have hsz : w.heap.size + 1 + 1 + 1 < w1.heap.size := by (have := ht1.size; simp at this; omega)); have hc1 := fun j => ht1.cell (w.heap.size + 1 + 1 + 1) j (by omega); have hf1 := fun j => ht1.frozen (w.heap.size + 1 + 1 + 1) j (by omega); have hc2 := fun j => ht1.cell (w.heap.size + 1 + 1) j (by omega); have hf2 := fun j => ht1.frozen (w.heap.size + 1 + 1) j (by omega); have M1 := Lib.hid hm1; have T1 := Lib.hid ht1; clear hm1 ht1)
    refine bodyPost_ret (v := .agg (setR L _).cells) ?hres rfl ⟨rfl, ?_, ?_⟩
    case hres => rw [Y.out]; simp [results, Tryz.results42, go_sem, ResD.cells, hc1, hc2]
    · rw [X.out]
      iterate 9 (refine MapIs.setAt ?_ (by omega) _)
      exact M1.out
    · iterate 9 (refine Only.setAt ?_ (by omega) _)
      refine Only.turned ?_ T1.out (Or.inl rfl)
      exact ((((Only.refl _ _).alloc _).alloc _).alloc _).alloc _
set_option maxRecDepth 100000 in
set_option maxHeartbeats 1000000 in
theorem set_no (w : World) (d : MapD) (o : OpD) (h : ValsIs w d.ref d.vals) (hp : permK o.kind o.expect (alook d.vals o.key) = false) :
    Calls Tryz.prog 42 #[mapV d, o.val] w fun e w' => e = .returned (.agg (setR d.vals o).cells) ∧ ValsIs w' d.ref (setV d.vals o) ∧ Only (· = d.ref) w w' := by
  have X := Lib.hid (show setV d.vals o = d.vals by unfold setV; rw [hp]; rfl)
  have Y := Lib.hid (show setR d.vals o = { found := (alook d.vals o.key).isSome, value := (alook d.vals o.key).getD 0, count := 0 } by unfold setR; rw [hp]; rfl)
  obtain ⟨kind, handle, key, value, expect⟩ := o
  obtain ⟨r, L, ro⟩ := d
  simp only [OpD.val, mapV] at *
  have hlr := h.lt
  obtain ⟨a1, a2, a3⟩ := blocks_alloc hlr
  have a4 := blocks_alloc4 hlr
  have hl := h.look key
  have H := Lib.hid h
  clear h
  have hc := perm_not rfl rfl hp
  clear hp
  generalize (alook L key).isSome = q at *
  generalize (alook L key).getD 0 = v at *
  rcases hc with ⟨rfl, rfl⟩ | ⟨rfl, rfl⟩ | ⟨rfl, rfl⟩ | ⟨rfl, rfl, hv⟩
  all_goals
    go_enter Tryz.func42, Tryz.ntmps42
    go_wp2_with fail
    refine bodyPost_ret (v := .agg (setR L _).cells) ?hres rfl ⟨rfl, ?_, ?_⟩
    case hres => rw [Y.out]; simp [results, Tryz.results42, go_sem, ResD.cells]
    · rw [X.out]
      exact (((H.out.alloc _).alloc _).alloc _).alloc _
    · exact ((((Only.refl _ _).alloc _).alloc _).alloc _).alloc _
theorem set_any (w : World) (d : MapD) (o : OpD) (h : ValsIs w d.ref d.vals) :
    Calls Tryz.prog 42 #[mapV d, o.val] w fun e w' => e = .returned (.agg (setR d.vals o).cells) ∧ ValsIs w' d.ref (setV d.vals o) ∧ Only (· = d.ref) w w' := by
  cases hp : permK o.kind o.expect (alook d.vals o.key) with
  | true => exact set_yes w d o h hp
  | false => exact set_no w d o h hp
/-- the cases of a removal -/
theorem drop_cases {kind expect v : Int} {q : Bool} {f : Option Int} (hq : f.isSome = q) (hv : f.getD 0 = v) (hp : dropK kind expect f = true) :
    (q = true ∧ kind = 5) ∨ (q = true ∧ (kind == 5) = false ∧ (v == expect) = true) := by
  unfold dropK at hp
  rw [hq, hv] at hp
  simp only [Bool.and_eq_true, Bool.or_eq_true] at hp
  by_cases h5 : kind = 5
  · exact Or.inl ⟨hp.1, h5⟩
  · exact Or.inr ⟨hp.1, by simp [h5], hp.2.resolve_left (by simp [h5])⟩
theorem drop_not {kind expect v : Int} {q : Bool} {f : Option Int} (hq : f.isSome = q) (hv : f.getD 0 = v) (hp : dropK kind expect f = false) :
    (q = false) ∨ (q = true ∧ (kind == 5) = false ∧ (v == expect) = false) := by
  unfold dropK at hp
  rw [hq, hv] at hp
  simp only [Bool.and_eq_false_iff, Bool.or_eq_false_iff] at hp
  cases q
  · exact Or.inl rfl
  · exact Or.inr ⟨rfl, (hp.resolve_left (by simp))⟩
set_option maxRecDepth 100000 in
set_option maxHeartbeats 1000000 in
theorem remove_yes (w : World) (d : MapD) (o : OpD) (h : ValsIs w d.ref d.vals) (hp : dropK o.kind o.expect (alook d.vals o.key) = true) :
    Calls Tryz.prog 43 #[mapV d, o.val] w fun e w' => e = .returned (.agg (removeR d.vals o).cells) ∧ ValsIs w' d.ref (removeV d.vals o) ∧ Only (· = d.ref) w w' := by
  have X := Lib.hid (show removeV d.vals o = adel d.vals o.key from if_pos hp)
  have Y := Lib.hid (show removeR d.vals o = { found := (alook d.vals o.key).isSome, value := (alook d.vals o.key).getD 0, count := 1 } by unfold removeR; rw [if_pos hp])
  obtain ⟨kind, handle, key, value, expect⟩ := o
  obtain ⟨r, L, ro⟩ := d
  simp only [OpD.val, mapV] at *
  have hlr := h.lt
  obtain ⟨a1, a2, a3⟩ := blocks_alloc hlr
  have a4 := blocks_alloc4 hlr
  have hl := h.look key
  have H := Lib.hid h
  clear h
  have hc := drop_cases rfl rfl hp
  clear hp
  generalize (alook L key).isSome = q at *
  generalize (alook L key).getD 0 = v at *
  rcases hc with ⟨rfl, rfl⟩ | ⟨rfl, h5, hv⟩
  all_goals
    go_enter Tryz.func43, Tryz.ntmps43
    go_wp2_with (at_delete; (refine wpList_delete_is _ rfl _ _ 97 9 rfl 22 Tryz.underlying97 Tryz.underlying9 key_str inj_str ((((H.out.alloc _).alloc _).alloc _).alloc _) rfl key rfl ?_); intro w1 hm1 ht1; (have hsz : w.heap.size + 1 + 1 + 1 < w1.heap.size := by (have := ht1.size; simp at this; omega)); have hc1 := fun j => ht1.cell (w.heap.size + 1 + 1 + 1) j (by omega); have hf1 := fun j => ht1.frozen (w.heap.size + 1 + 1 + 1) j (by omega); have hc2 := fun j => ht1.cell (w.heap.size + 1 + 1) j (by omega); have hf2 := fun j => ht1.frozen (w.heap.size + 1 + 1) j (by omega); have M1 := Lib.hid hm1; have T1 := Lib.hid ht1; clear hm1 ht1)
    refine bodyPost_ret (v := .agg (removeR L _).cells) ?hres rfl ⟨rfl, ?_, ?_⟩
    case hres => rw [Y.out]; simp [results, Tryz.results43, go_sem, ResD.cells, hc1, hc2]
    · rw [X.out]
      iterate 9 (refine MapIs.setAt ?_ (by omega) _)
      exact M1.out
    · iterate 9 (refine Only.setAt ?_ (by omega) _)
      refine Only.turned ?_ T1.out (Or.inl rfl)
      exact ((((Only.refl _ _).alloc _).alloc _).alloc _).alloc _
set_option maxRecDepth 100000 in
set_option maxHeartbeats 1000000 in
theorem remove_no (w : World) (d : MapD) (o : OpD) (h : ValsIs w d.ref d.vals) (hp : dropK o.kind o.expect (alook d.vals o.key) = false) :
    Calls Tryz.prog 43 #[mapV d, o.val] w fun e w' => e = .returned (.agg (removeR d.vals o).cells) ∧ ValsIs w' d.ref (removeV d.vals o) ∧ Only (· = d.ref) w w' := by
  have X := Lib.hid (show removeV d.vals o = d.vals by unfold removeV; rw [hp]; rfl)
  have Y := Lib.hid (show removeR d.vals o = { found := (alook d.vals o.key).isSome, value := (alook d.vals o.key).getD 0, count := 0 } by unfold removeR; rw [hp]; rfl)
  obtain ⟨kind, handle, key, value, expect⟩ := o
  obtain ⟨r, L, ro⟩ := d
  simp only [OpD.val, mapV] at *
  have hlr := h.lt
  obtain ⟨a1, a2, a3⟩ := blocks_alloc hlr
  have a4 := blocks_alloc4 hlr
  have hl := h.look key
  have H := Lib.hid h
  clear h
  have hc := drop_not rfl rfl hp
  clear hp
  generalize (alook L key).isSome = q at *
  generalize (alook L key).getD 0 = v at *
  rcases hc with rfl | ⟨rfl, h5, hv⟩
  all_goals
    go_enter Tryz.func43, Tryz.ntmps43
    go_wp2_with fail
    refine bodyPost_ret (v := .agg (removeR L _).cells) ?hres rfl ⟨rfl, ?_, ?_⟩
    case hres => rw [Y.out]; simp [results, Tryz.results43, go_sem, ResD.cells]
    · rw [X.out]
      exact (((H.out.alloc _).alloc _).alloc _).alloc _
    · exact ((((Only.refl _ _).alloc _).alloc _).alloc _).alloc _
theorem remove_any (w : World) (d : MapD) (o : OpD) (h : ValsIs w d.ref d.vals) :
    Calls Tryz.prog 43 #[mapV d, o.val] w fun e w' => e = .returned (.agg (removeR d.vals o).cells) ∧ ValsIs w' d.ref (removeV d.vals o) ∧ Only (· = d.ref) w w' := by
  cases hp : dropK o.kind o.expect (alook d.vals o.key) with
  | true => exact remove_yes w d o h hp
  | false => exact remove_no w d o h hp
end Go.Proofs.YtbmoehndnbbhcaaGreatDoor
