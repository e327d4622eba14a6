/- The walk of the reference's Put. The walks of the reference's NewFamily and Contents. Rows of maps; the walk of the reference's set. -/
import Derived.Test.YtbmoehndnbbhcaaGreatDoorMZE
import Derived.Laws.AppendOwnNone
import Derived.Deep.CutBlock
import Derived.Deep.DeepCutAuto
import Derived.RegionTactic
namespace Go.Proofs.YtbmoehndnbbhcaaGreatDoor
set_option linter.unusedVariables false
set_option linter.unusedSimpArgs false
open Go Go.RowKit Go.MapKept
/-- an append of a slice that may be nil -/
theorem wpList_appv {ops : Array Oper} {rest : List Oper} {o : Oper} {a : Act} {Q : Exit → Act → World → Prop} (T e : TypeId) (hT : Tryz.prog.underlying T = some (.slice e)) (z : Value) (sz by8 : Nat) (hinfo : (Tryz.prog.info? e).map (fun i => (i.zero, i.size, i.bytes)) = some (some z, sz, by8)) (hz : z.cells.size = sz) (h0 : 0 < sz)
    (hgd : o.guard = none) (s x : Operand) (ho : o.op = .call { callee := .builtin .append, args := #[s, x], argTypes := #[T, T] })
    (B : Nat) (w : World) (v : Value) (n : Nat) (xs : List Value) (hs : a.eval s = v) (hown : w.ownsRow B e sz v n xs) (A : Option Addr) (m c : Nat) (ys : List Value) (hx : a.eval x = .slice A m c) (hA : A = none → m = 0 ∧ c = 0) (hl : ys.length = m * sz)
    (hc : ∀ ad, A = some ad → ∀ j u, ys[j]? = some u → w.cell? (ad.add j) = some u) (h1 : ∀ u ∈ ys, u.oneCell' = true) (hB : B ≤ w.heap.size) (hm : n + m ≤ maxLen) (hlen : (n + m) * by8 ≤ 140737488355328)
    (h : ∀ v' w', w'.ownsRow B e sz v' (n + m) (xs ++ ys) → w.grownBy w' v.ownBlock → wpList Tryz.prog ops Q rest (a.put o.dst v') w') : wpList Tryz.prog ops Q (o :: rest) a w := by
  cases A with
  | some ad => exact wpList_app T e hT z sz by8 hinfo hz h0 hgd s x ho B w v n xs hs hown ad m c ys hx hl (hc ad rfl) h1 hB hm hlen fun a' c' w' h2 h3 => h _ w' h2 h3
  | none =>
    obtain ⟨rfl, rfl⟩ := hA rfl
    obtain ⟨i0, hi, _⟩ := info_parts3 hinfo
    refine wpList_append_own_none hgd s x T ho B e i0 sz hT hi v n xs hs hown hx ?_
    have hy : ys = [] := List.length_eq_zero_iff.1 (by rw [hl]; omega)
    subst hy
    exact h v w (by simpa using hown) ⟨rfl, rfl, rfl, Nat.le_refl _, fun _ _ _ => rfl⟩
theorem rbelow_drewN {B : Nat} {w w' : World} (h : Below B w w') (n : Nat) : Below B w (w'.drewN n) := ⟨h.os, h.tape, h.output, h.size, h.block⟩
theorem row_cases {w : World} {B sz n c : Nat} {e : TypeId} {A : Option Addr} {xs : List Value} (h : w.ownsRow B e sz (.slice A n c) n xs) : (A = none ∧ n = 0 ∧ c = 0) ∨ ∃ g, A = some ⟨g, 0, none⟩ ∧ n ≤ c := by
  rcases h.2 with ⟨h1, h2⟩ | ⟨g, cap, cur, hv, _, _, hn, _⟩
  · simp only [Value.slice.injEq] at h1
    exact Or.inl h1
  · simp only [Value.slice.injEq, true_and] at hv
    obtain ⟨rfl, rfl⟩ := hv
    exact Or.inr ⟨g, rfl, hn⟩
theorem row_heap {w w' : World} {B sz n : Nat} {e : TypeId} {v : Value} {xs : List Value} (h : w.ownsRow B e sz v n xs) (he : w'.heap = w.heap) : w'.ownsRow B e sz v n xs := by
  unfold World.ownsRow at h ⊢
  rw [he]
  exact h
theorem while_at {α : Type} (q : α → Bool) (l : List α) (j : Nat) (hj : j ≤ l.length) (h : ∀ i x, i < j → l[i]? = some x → q x = true) (he : ∀ x, l[j]? = some x → q x = false) : l.takeWhile q = l.take j ∧ l.dropWhile q = l.drop j := by
  induction l generalizing j with
  | nil => simp
  | cons a r ih =>
    cases j with
    | zero =>
      have := he a (by simp)
      rw [List.takeWhile_cons_of_neg (by simpa using this), List.dropWhile_cons_of_neg (by simpa using this)]
      simp
    | succ j =>
      have ha := h 0 a (by omega) (by simp)
      rw [List.takeWhile_cons_of_pos ha, List.dropWhile_cons_of_pos ha]
      obtain ⟨e1, e2⟩ := ih j (by simpa using hj) (fun i x hi hx => h (i + 1) x (by omega) (by simpa using hx)) (fun x hx => he x (by simpa using hx))
      simp [e1, e2]
theorem hashr_same (s : ByteArray) (m : Int) (w : World) (hs : s.size ≤ maxLen) (h0 : 0 ≤ m) (h1 : m ≤ 18446744073709551615) :
    Calls Tryz.prog 79 #[.string s, .int .u64 m] w fun e w' => e = .returned (.int .u64 (hashM s.data.toList m)) ∧ w' = w :=
  (hash_ref s m w hs h0 h1).mono fun _ _ ⟨he, hw⟩ => ⟨he, hw.symm⟩
theorem lessr_same (h k : Int) (a b : ByteArray) (w : World) (h0 : 0 ≤ h) (h1 : h ≤ 18446744073709551615) (k0 : 0 ≤ k) (k1 : k ≤ 18446744073709551615) :
    Calls Tryz.prog 80 #[.int .u64 h, .string a, .int .u64 k, .string b] w fun e w' => e = .returned (.bool (lessB h a.toList k b.toList)) ∧ w' = w :=
  (less_ref h k a b w h0 h1 k0 k1).mono fun _ _ ⟨he, hw⟩ => ⟨he, hw.symm⟩
theorem one_cells (w : World) (x : ByteArray × Int) : ∀ j u, (prC x)[j]? = some u → (w.alloc (.cells #[.string x.1, .int .u64 x.2] 122)).cell? ((⟨w.heap.size, 0, none⟩ : Addr).add j) = some u := by
  have := prC_cells [x] (w.alloc (.cells #[.string x.1, .int .u64 x.2] 122)) w.heap.size 0 (fun i y hy => by
    have hi : i = 0 := by
      have := (List.getElem?_eq_some_iff.1 hy).1
      simpa using this
    subst hi
    obtain rfl : x = y := by simpa using hy
    exact ⟨blk_cell (heap_alloc w _).1 0, blk_cell (heap_alloc w _).1 1⟩)
  simpa using this
theorem one_one (x : ByteArray × Int) : ∀ u ∈ prC x, u.oneCell' = true := by
  have := prC_one [x]
  simpa using this
/-- the cells of a beginning of a row, in a later world -/
theorem src_take {w w' : World} {B g n c : Nat} {R : PL} (h : w.ownsRow B 122 2 (.slice (some ⟨g, 0, none⟩) n c) n (R.flatMap prC)) (j : Nat) (hk : w'.heap[g]? = w.heap[g]?) :
    ∀ ad, (some (⟨g, 0, none⟩ : Addr)) = some ad → ∀ i u, ((R.take j).flatMap prC)[i]? = some u → w'.cell? (ad.add i) = some u := by
  intro ad had i u hu
  obtain rfl := Option.some.inj had
  have hk' : w'.heap[((⟨g, 0, none⟩ : Addr).add i).block]? = w.heap[((⟨g, 0, none⟩ : Addr).add i).block]? := by rw [raddr]; exact hk
  refine (World.cell?_of_block hk').trans (h.cells (g := g) rfl i u ?_)
  have e : R.flatMap prC = (R.take j).flatMap prC ++ (R.drop j).flatMap prC := by rw [← List.flatMap_append, List.take_append_drop]
  rw [e, List.getElem?_append_left (List.getElem?_eq_some_iff.1 hu).1]
  exact hu
theorem src_drop {w w' : World} {B g n c : Nat} {R : PL} (h : w.ownsRow B 122 2 (.slice (some ⟨g, 0, none⟩) n c) n (R.flatMap prC)) (j : Nat) (hj : j ≤ R.length) (hk : w'.heap[g]? = w.heap[g]?) :
    ∀ ad, (some (⟨g, j * 2, none⟩ : Addr)) = some ad → ∀ i u, ((R.drop j).flatMap prC)[i]? = some u → w'.cell? (ad.add i) = some u := by
  intro ad had i u hu
  obtain rfl := Option.some.inj had
  have ea : ((⟨g, j * 2, none⟩ : Addr).add i) = ⟨g, j * 2 + i, none⟩ := by
    unfold Addr.add
    split
    · subst i; rfl
    · rfl
  rw [ea, World.cell?_of_block (a := ⟨g, j * 2 + i, none⟩) hk]
  have := h.cells (g := g) rfl (j * 2 + i) u (by
    have e : R.flatMap prC = (R.take j).flatMap prC ++ (R.drop j).flatMap prC := by rw [← List.flatMap_append, List.take_append_drop]
    have el : ((R.take j).flatMap prC).length = j * 2 := by rw [prC_len, List.length_take, Nat.min_eq_left hj]
    rw [e, List.getElem?_append_right (by rw [el]; omega), el, Nat.add_sub_cancel_left]
    exact hu)
  rw [raddr] at this
  exact this
theorem rgrown_below {w w' : World} {row : Option Nat} {B : Nat} (hg : w.grownBy w' row) (hB : B ≤ w.heap.size) (hr : ∀ k, row = some k → B ≤ k) : Below B w w' :=
  ⟨hg.os, hg.tape, hg.output, hg.size, fun k hk => hg.block k (by omega) (fun e => by have := hr k e.symm; omega)⟩
theorem put_end {w w4 : World} {v4 : Value} {n j : Nat} {xs : List Value} {R : PL} {m v : Int} {k : ByteArray} {l : PL} (h : w4.ownsRow w.heap.size 122 2 v4 n xs) (hb : Below w.heap.size w w4)
    (pu : putR m l k v = R.takeWhile (fun p => ltP m p (k, 0)) ++ (k, v) :: R.dropWhile (fun p => ltP m p (k, 0))) (h1 : R.takeWhile (fun p => ltP m p (k, 0)) = R.take j) (h2 : R.dropWhile (fun p => ltP m p (k, 0)) = R.drop j)
    (hn : n = (R.take j).length + 1 + (R.drop j).length) (hx : xs = (R.take j).flatMap prC ++ prC (k, v) ++ (R.drop j).flatMap prC) : WoPost w (putR m l k v) (.returned v4) w4 := by
  obtain ⟨A, c, rfl⟩ := row_form h
  have e : n = (putR m l k v).length := by rw [pu, h1, h2, hn]; simp; omega
  have ex : xs = (putR m l k v).flatMap prC := by rw [pu, h1, h2, hx]; simp
  subst hx
  rw [ex, e] at h
  exact ⟨A, c, by rw [e], h, hb⟩
def PuMid (w w1 : World) (R : PL) (m : Int) (k : ByteArray) (v11 : Value) (wx : World) : Prop :=
  ∃ j : Nat, v11 = .int .i64 j ∧ j ≤ R.length ∧ (R.takeWhile (fun p => ltP m p (k, 0)) = R.take j ∧ R.dropWhile (fun p => ltP m p (k, 0)) = R.drop j) ∧ Below w.heap.size w wx ∧ wx.heap = w1.heap
def PuRel (w w1 : World) (R : PL) (m : Int) (k : ByteArray) (v11 : Value) (wx : World) : Prop :=
  ∃ j : Nat, v11 = .int .i64 j ∧ j ≤ R.length ∧ (∀ i x, i < j → R[i]? = some x → ltP m x (k, 0) = true) ∧ Below w.heap.size w wx ∧ wx.heap = w1.heap
set_option maxRecDepth 100000 in
set_option maxHeartbeats 2000000 in
theorem put_any (T : Nat → Prop) (w : World) (A : Option Addr) (c : Nat) (l : PL) (h : PrAt T w A l) (hl : l.length ≤ 1048576) (m : Int) (m0 : 0 ≤ m) (m1 : m ≤ 18446744073709551615) (hks : ∀ x ∈ l, x.1.size ≤ 64) (k : ByteArray) (hk : k.size ≤ 64) (v : Int) :
    Calls Tryz.prog 67 #[.int .u64 m, .slice A l.length c, .string k, .int .u64 v] w (WoPost w (putR m l k v)) := by
  have WO := Lib.hid (without_any T w A c l h hl k)
  have hR : (withoutR l k).length ≤ 1048576 := Nat.le_trans (List.length_filter_le _ _) hl
  have hRk : ∀ x ∈ withoutR l k, x.1.size ≤ 64 := fun x hx => hks x (without_mem hx).1
  have PU := Lib.hid (show putR m l k v = (withoutR l k).takeWhile (fun p => ltP m p (k, 0)) ++ (k, v) :: (withoutR l k).dropWhile (fun p => ltP m p (k, 0)) from rfl)
  have LT := Lib.hid (show ∀ x : ByteArray × Int, ltP m x (k, 0) = lessB (hashM x.1.data.toList m) x.1.toList (hashM k.data.toList m) k.toList from fun _ => rfl)
  generalize withoutR l k = R at *
  have hb := hashM_bd k.data.toList m
  generalize hH : hashM k.data.toList m = H at *
  have HK : Hid (Calls Tryz.prog 79 #[.string k, .int .u64 m] w fun e w' => e = .returned (.int .u64 H) ∧ w' = w) := hH ▸ hashr_same k m w (by unfold maxLen; omega) m0 m1
  have HKW : Hid (∀ W, Calls Tryz.prog 79 #[.string k, .int .u64 m] W fun e w' => e = .returned (.int .u64 H) ∧ w' = W) := fun W => hH ▸ hashr_same k m W (by unfold maxLen; omega) m0 m1
  have HB := Lib.hid hb
  have M0 := Lib.hid m0
  have M1 := Lib.hid m1
  have RK := Lib.hid hRk
  clear h hks hRk hb hH m0 m1 hk HK hl
  go_enter Tryz.func67, Tryz.ntmps67
  go_wp2_with fail
  refine WO.out.mono ?_
  rintro e w1 ⟨A2, c2, rfl, hown, hbw⟩
  have HO := Lib.hid hown
  have B1 := Lib.hid hbw
  have P1 := Lib.hid (prAt_of_row hown rfl)
  clear hown hbw WO
  go_wp2_with fail
  refine (HKW.out w1).mono ?_
  rintro e w1' ⟨rfl, rfl⟩
  clear HKW
  go_upto_block 0 with fail
  go_cut [11] (fun v11 wx => PuMid w w1' R m k v11 wx)
  case first =>
    go_wp2_with fail
    go_loopw [11] (fun v11 wr => PuRel w w1' R m k v11 wr) (fun v11 _ => R.length - (intOf v11).toNat)
    case atStart => exact ⟨0, rfl, by omega, fun i x hi => by omega, B1.out, rfl⟩
    case round =>
      obtain ⟨j, rfl, hj, hall, hbr, hhe⟩ := hrel
      have AL := Lib.hid hall
      have BR := Lib.hid hbr
      have HE := Lib.hid hhe
      clear hall hbr hhe
      by_cases hlt : j < R.length
      · obtain ⟨x, hx⟩ : ∃ x, R[j]? = some x := ⟨_, List.getElem?_eq_getElem hlt⟩
        obtain ⟨b, hA, hT, hbz, hc⟩ := P1.out (by omega)
        subst hA
        obtain ⟨c0, c1⟩ := hc j x hx
        have eb : wr.heap[b]? = w1'.heap[b]? := by rw [HE.out]
        have d0 := (World.cell?_of_block (a := ⟨b, j * 2, none⟩) eb).trans c0
        have hj0 : (0 : Int) ≤ j := by omega
        have hj1 : (j : Int) < R.length := by omega
        have e1 : decide ((j : Int) < R.length) = true := decide_eq_true hj1
        have e2 : decide (j < R.length) = true := decide_eq_true hlt
        have xk := Lib.hid (RK.out x (List.mem_of_getElem? hx))
        have LX := Lib.hid (LT.out x)
        have HX := Lib.hid hx
        clear hx hc c0 c1 eb hT
        generalize hq : ltP m x (k, 0) = q at *
        have HQ := Lib.hid hq
        have LS : Hid (∀ W, Calls Tryz.prog 80 #[.int .u64 (hashM x.1.data.toList m), .string x.1, .int .u64 H, .string k] W fun e w' => e = .returned (.bool q) ∧ w' = W) := fun W => LX.out ▸ lessr_same _ _ _ _ W (hashM_bd _ _).1 (hashM_bd _ _).2 HB.out.1 HB.out.2
        clear hq LX
        cases q with
        | true =>
          go_wp2_with fail
          go_quiet ((first | (go_at_call 79; exact Calls.quiet_of_same (hashr_same _ _ _ (Nat.le_trans xk.out (by decide)) M0.out M1.out)) | (go_at_call 80; exact Calls.quiet_of_same (LS.out _))))
          go_wp2_with fail
          go_roundw
          case rel =>
            refine ⟨j + 1, by go_num, by omega, fun i y hi hy => ?_, rbelow_drewN BR.out _, HE.out⟩
            by_cases hij : i = j
            · subst hij
              rw [HX.out] at hy
              obtain rfl := Option.some.inj hy
              exact HQ.out
            · exact AL.out i y (by omega) hy
          case measure => simp [intOf]; omega
        | false =>
          go_wp2_with fail
          go_quiet ((first | (go_at_call 79; exact Calls.quiet_of_same (hashr_same _ _ _ (Nat.le_trans xk.out (by decide)) M0.out M1.out)) | (go_at_call 80; exact Calls.quiet_of_same (LS.out _))))
          go_wp2_with fail
          go_meet
          refine ⟨j, rfl, hj, while_at _ R j hj AL.out fun y hy => ?_, rbelow_drewN BR.out _, HE.out⟩
          rw [HX.out] at hy
          obtain rfl := Option.some.inj hy
          exact HQ.out
      · have e1 : decide ((j : Int) < R.length) = false := decide_eq_false (by omega)
        have e2 : decide (j < R.length) = false := decide_eq_false hlt
        go_wp2_with fail
        go_quiet (fail)
        go_wp2_with fail
        go_meet
        refine ⟨j, rfl, hj, while_at _ R j hj AL.out fun y hy => ?_, rbelow_drewN BR.out _, HE.out⟩
        have := (List.getElem?_eq_some_iff.1 hy).1
        omega
  case rest =>
    obtain ⟨j, rfl, hj, ⟨hw1, hw2⟩, hbw, hhe⟩ := hcut
    have HO' := Lib.hid (row_heap HO.out hhe)
    have BW := Lib.hid hbw
    have W1 := Lib.hid hw1
    have W2 := Lib.hid hw2
    have hsz := hbw.size
    have hj0 : (0 : Int) ≤ j := by omega
    have hj1 : (j : Int) ≤ R.length := by omega
    clear hbw hw1 hw2 hhe HO B1 P1 LT
    rcases row_cases HO'.out with ⟨rfl, hn0, rfl⟩ | ⟨g, rfl, hcap⟩
    · obtain rfl : R = [] := List.length_eq_zero_iff.1 hn0
      obtain rfl : j = 0 := by simpa using hj
      go_wp2_with (at_builtin; refine stopAt ?_)
      unfold StopAt
      refine wpList_appv 114 122 Tryz.underlying114 _ 2 24 pr_info rfl (by decide) rfl _ _ rfl wc.heap.size _ _ _ _ rfl (World.ownsRow_lit wc #[] 0 (Nat.le_refl _) (by unfold maxLen; omega) rfl) _ _ _ [] rfl (fun _ => ⟨rfl, rfl⟩) rfl (fun ad h => by cases h) (fun u hu => by cases hu) (by simp) (by unfold maxLen; omega) (by omega) ?_
      intro v1 w2 ho2 hg2
      have O2 := Lib.hid ho2
      have B2 := Lib.hid (BW.out.trans (grown_below hg2 hsz (fun k hk => by have e : wc.heap.size = k := Option.some.inj hk; omega)))
      have hsz2 := B2.out.size
      have hs2 := hg2.size
      clear ho2
      go_wp2_with (at_builtin; refine stopAt ?_)
      unfold StopAt
      refine wpList_app 114 122 Tryz.underlying114 _ 2 24 pr_info rfl (by decide) rfl _ _ rfl wc.heap.size _ _ _ _ rfl (O2.out.alloc _) ⟨w2.heap.size, 0, none⟩ 1 1 (prC (k, v)) rfl rfl (one_cells w2 (k, v)) (one_one (k, v)) (by simp at hs2 ⊢ <;> omega) (by unfold maxLen; omega) (by omega) ?_
      intro a3 c3 w3 ho3 hg3
      simp only [Nat.zero_add, List.nil_append] at ho3
      have O3 := Lib.hid ho3
      have B3 := Lib.hid (B2.out.trans (grown_below hg3 hsz2 (fun k hk => Nat.le_trans hsz (row_kind O2.out hk).1)))
      have hsz3 := B3.out.size
      have hwc3 : wc.heap.size ≤ w3.heap.size := by
        have e1 := hg3.size
        simp at hs2 e1
        omega
      clear hg2 hg3 ho3
      go_wp2_with (at_builtin; refine stopAt ?_)
      unfold StopAt
      refine wpList_appv 114 122 Tryz.underlying114 _ 2 24 pr_info rfl (by decide) rfl _ _ rfl wc.heap.size _ (.slice a3 1 c3) _ _ rfl O3.out _ _ _ [] rfl (fun _ => ⟨rfl, rfl⟩) rfl (fun ad h => by cases h) (fun u hu => by cases hu) hwc3 (by unfold maxLen; omega) (by omega) ?_
      intro v4 w4 ho4 hg4
      have O4 := Lib.hid ho4
      have B4 := Lib.hid (B3.out.trans (rgrown_below hg4 hsz3 (fun k hk => Nat.le_trans hsz (row_kind O3.out hk).1)))
      clear ho4 hg4
      go_wp2_with fail
      go_ret
      refine put_end (row_le O4.out hsz) B4.out PU.out W1.out W2.out (by simp) (by simp)
    · have hj2 : (j : Int) ≤ c2 := by omega
      have hgz : g < wc.heap.size := row_lt HO'.out rfl
      go_wp2_with (at_builtin; refine stopAt ?_)
      unfold StopAt
      refine wpList_appv 114 122 Tryz.underlying114 _ 2 24 pr_info rfl (by decide) rfl _ _ rfl wc.heap.size _ _ _ _ rfl (World.ownsRow_lit wc #[] 0 (Nat.le_refl _) (by unfold maxLen; omega) rfl) _ _ _ ((R.take j).flatMap prC) rfl (fun h => by cases h) (by rw [prC_len, List.length_take]; omega) (src_take HO'.out j (w' := wc.alloc (.cells #[] 122)) (Below.heap_alloc _ _ _ hgz)) (prC_one _) (by simp) (by unfold maxLen; omega) (by omega) ?_
      intro v1 w2 ho2 hg2
      have O2 := Lib.hid ho2
      have B2 := Lib.hid (BW.out.trans (grown_below hg2 hsz (fun k hk => by have e : wc.heap.size = k := Option.some.inj hk; omega)))
      have hsz2 := B2.out.size
      have hs2 := hg2.size
      clear ho2
      go_wp2_with (at_builtin; refine stopAt ?_)
      unfold StopAt
      refine wpList_app 114 122 Tryz.underlying114 _ 2 24 pr_info rfl (by decide) rfl _ _ rfl wc.heap.size _ _ _ _ rfl (O2.out.alloc _) ⟨w2.heap.size, 0, none⟩ 1 1 (prC (k, v)) rfl rfl (one_cells w2 (k, v)) (one_one (k, v)) (by simp at hs2 ⊢ <;> omega) (by unfold maxLen; omega) (by omega) ?_
      intro a3 c3 w3 ho3 hg3
      simp only [Nat.zero_add, List.nil_append] at ho3
      have O3 := Lib.hid ho3
      have B3 := Lib.hid (B2.out.trans (grown_below hg3 hsz2 (fun k hk => Nat.le_trans hsz (row_kind O2.out hk).1)))
      have hsz3 := B3.out.size
      have hwc3 : wc.heap.size ≤ w3.heap.size := by
        have e1 := hg3.size
        simp at hs2 e1
        omega
      have hgw2 : w2.heap[g]? = wc.heap[g]? := grown_block hg2 hgz (fun e => by have e' : wc.heap.size = g := Option.some.inj e; omega)
      have hgw : w3.heap[g]? = wc.heap[g]? := (grown_block hg3 (by simp at hs2; omega) (fun e => by have := (row_kind O2.out e).1; omega)).trans hgw2
      clear hg2 hg3 ho3
      go_wp2_with (at_builtin; refine stopAt ?_)
      · unfold StopAt
        refine wpList_appv 114 122 Tryz.underlying114 _ 2 24 pr_info rfl (by decide) rfl _ _ rfl wc.heap.size _ (.slice a3 (j + 1) c3) _ _ rfl O3.out _ _ _ [] rfl (fun h => by cases h) (by simp; omega) (fun ad _ i u hu => by cases hu) (fun u hu => by cases hu) hwc3 (by unfold maxLen; omega) (by omega) ?_
        intro v4 w4 ho4 hg4
        have O4 := Lib.hid ho4
        have B4 := Lib.hid (B3.out.trans (rgrown_below hg4 hsz3 (fun k hk => Nat.le_trans hsz (row_kind O3.out hk).1)))
        clear ho4 hg4
        go_wp2_with fail
        go_ret
        refine put_end (row_le O4.out hsz) B4.out PU.out W1.out W2.out (by simp; omega) (by rw [List.drop_of_length_le (show R.length ≤ j by omega)]; simp)
      · unfold StopAt
        refine wpList_appv 114 122 Tryz.underlying114 _ 2 24 pr_info rfl (by decide) rfl _ _ rfl wc.heap.size _ (.slice a3 (j + 1) c3) _ _ rfl O3.out (some ⟨g, j * 2, none⟩) _ _ ((R.drop j).flatMap prC) rfl (fun h => by cases h) (by rw [prC_len, List.length_drop]) (src_drop HO'.out j hj hgw) (prC_one _) hwc3 (by unfold maxLen; omega) (by omega) ?_
        intro v4 w4 ho4 hg4
        have O4 := Lib.hid ho4
        have B4 := Lib.hid (B3.out.trans (rgrown_below hg4 hsz3 (fun k hk => Nat.le_trans hsz (row_kind O3.out hk).1)))
        clear ho4 hg4
        go_wp2_with fail
        go_ret
        refine put_end (row_le O4.out hsz) B4.out PU.out W1.out W2.out (by simp; omega) (by simp)
end Go.Proofs.YtbmoehndnbbhcaaGreatDoor
namespace Go.Proofs.YtbmoehndnbbhcaaGreatDoor
set_option linter.unusedVariables false
set_option linter.unusedSimpArgs false
open Go Go.RowKit Go.MapKept
theorem findM_at {ms : List RMap} {n : Int} {k : Nat} {d : RMap} (h : findM ms n = some (k, d)) : ms[k]? = some d ∧ d.num = n := by
  induction ms generalizing k with
  | nil => simp [findM] at h
  | cons a r ih =>
    by_cases hn : a.num = n
    · simp only [findM, if_pos hn, Option.some.injEq, Prod.mk.injEq] at h
      obtain ⟨rfl, rfl⟩ := h
      exact ⟨by simp, hn⟩
    · simp only [findM, if_neg hn, Option.map_eq_some_iff, Prod.mk.injEq, Prod.exists] at h
      obtain ⟨j, x, hx, rfl, rfl⟩ := h
      have := ih hx
      exact ⟨by simpa using this.1, this.2⟩
theorem findW_at {ms : List (Int × IterD)} {n : Int} {k : Nat} {d : IterD} (h : findW ms n = some (k, d)) : ∃ m, ms[k]? = some (m, d) ∧ m = n := by
  induction ms generalizing k with
  | nil => simp [findW] at h
  | cons a r ih =>
    by_cases hn : a.1 = n
    · simp only [findW, if_pos hn, Option.some.injEq, Prod.mk.injEq] at h
      obtain ⟨rfl, rfl⟩ := h
      exact ⟨a.1, by simp, hn⟩
    · simp only [findW, if_neg hn, Option.map_eq_some_iff, Prod.mk.injEq, Prod.exists] at h
      obtain ⟨j, x, hx, rfl, rfl⟩ := h
      obtain ⟨m, h1, h2⟩ := ih hx
      exact ⟨m, by simpa using h1, h2⟩
theorem newfam_block (w : World) (o o' : Obj) : ((w.alloc o).alloc o').heap[w.heap.size + 1]? = some o' := by
  have h := (heap_alloc (w.alloc o) o').1
  rwa [show (w.alloc o).heap.size = w.heap.size + 1 by simp] at h
/-- a new family -/
def fam0 (m : Int) : RFam := ⟨m, [⟨0, false, []⟩], []⟩
set_option maxRecDepth 100000 in
theorem newfam_any (w : World) (m : Int) (m0 : 0 ≤ m) (m1 : m ≤ 18446744073709551615) :
    Calls Tryz.prog 28 #[.int .u64 m] w fun e w' => ∃ A, e = .returned (rfamV (fam0 m) A 1 none 0) ∧ RFamAt (NewB w w') w' A none (fam0 m) ∧ Below w.heap.size w w' := by
  go_enter Tryz.func28, Tryz.ntmps28
  go_wp2_with fail
  try simp only [Exit.inBlock, Exit.then]
  refine bodyPost_ret (v := rfamV (fam0 m) (some ⟨w.heap.size + 1, 0, none⟩) 1 none 0) (by simp [results, Tryz.results28, go_sem, rfamV, fam0]) rfl ⟨_, rfl, ⟨fun _ => ?_, fun h => by simp [fam0] at h, ?_⟩, ?_⟩
  · refine ⟨w.heap.size + 1, rfl, ⟨by omega, by simp⟩, by simp, fun i x hx => ?_⟩
    have hi : i = 0 := by
      have := (List.getElem?_eq_some_iff.1 hx).1
      simpa [fam0] using this
    subst hi
    obtain rfl : (⟨0, false, []⟩ : RMap) = x := by simpa [fam0] using hx
    have hk := newfam_block w (.cells #[.int .u64 m, .slice (some ⟨w.heap.size + 1, 0, none⟩) 1 1, .slice none 0 0] 72) (.cells #[.int .i64 0, .bool false, .slice none 0 0] 116)
    exact ⟨none, 0, blk_cell hk 0, blk_cell hk 1, blk_cell hk 2, fun h => by simp at h⟩
  · exact ⟨m0, m1, by simp [fam0], by simp [fam0], by simp [fam0], by simp [fam0], by simp [fam0]⟩
  · exact ((Below.refl _ _).alloc (Nat.le_refl _) _).alloc (by simp) _
end Go.Proofs.YtbmoehndnbbhcaaGreatDoor
namespace Go.Proofs.YtbmoehndnbbhcaaGreatDoor
set_option linter.unusedVariables false
set_option linter.unusedSimpArgs false
open Go Go.RowKit Go.MapKept
/-- the cells of a list of maps -/
structure RowOf (T : Nat → Prop) (w : World) (cs : List Value) (ms : List RMap) : Prop where
  len : cs.length = ms.length * 3
  one : ∀ u ∈ cs, u.oneCell' = true
  each : ∀ i d, ms[i]? = some d → ∃ u c, cs[i * 3]? = some (.int .i64 d.num) ∧ cs[i * 3 + 1]? = some (.bool d.ro) ∧ cs[i * 3 + 2]? = some (.slice u d.pairs.length c) ∧ PrAt T w u d.pairs
theorem RowOf.keep {T : Nat → Prop} {w w' : World} {cs : List Value} {ms : List RMap} (h : RowOf T w cs ms) (k : Kept T w w') : RowOf T w' cs ms :=
  ⟨h.len, h.one, fun i d hd => by
    obtain ⟨u, c, h0, h1, h2, h3⟩ := h.each i d hd
    exact ⟨u, c, h0, h1, h2, h3.keep k⟩⟩
theorem RowOf.more {T T' : Nat → Prop} {w : World} {cs : List Value} {ms : List RMap} (h : RowOf T w cs ms) (k : ∀ i, T i → T' i) : RowOf T' w cs ms :=
  ⟨h.len, h.one, fun i d hd => by
    obtain ⟨u, c, h0, h1, h2, h3⟩ := h.each i d hd
    exact ⟨u, c, h0, h1, h2, h3.more k⟩⟩
theorem maps_row {T : Nat → Prop} {w : World} {A : Option Addr} {ms : List RMap} (h : MapsAt T w A ms) (h0 : 0 < ms.length) :
    ∃ b cs, A = some ⟨b, 0, none⟩ ∧ T b ∧ b < w.heap.size ∧ RowOf T w cs ms ∧ ∀ j u, cs[j]? = some u → w.cell? ((⟨b, 0, none⟩ : Addr).add j) = some u := by
  obtain ⟨b, hA, hT, hz, hc⟩ := h h0
  have cell : ∀ j, j < ms.length * 3 → ∃ u, w.cell? ⟨b, j, none⟩ = some u ∧ u.oneCell' = true := fun j hj => by
    obtain ⟨d, hd⟩ : ∃ d, ms[j / 3]? = some d := ⟨_, List.getElem?_eq_getElem (by omega)⟩
    obtain ⟨u, c, c0, c1, c2, _⟩ := hc (j / 3) d hd
    have : j % 3 = 0 ∨ j % 3 = 1 ∨ j % 3 = 2 := by omega
    rcases this with e | e | e
    · exact ⟨_, by rw [show j = j / 3 * 3 by omega]; exact c0, rfl⟩
    · exact ⟨_, by rw [show j = j / 3 * 3 + 1 by omega]; exact c1, rfl⟩
    · exact ⟨_, by rw [show j = j / 3 * 3 + 2 by omega]; exact c2, rfl⟩
  have hget : ∀ j u, j < ms.length * 3 → w.cell? ⟨b, j, none⟩ = some u → ((List.range (ms.length * 3)).map (fun j => (w.cell? ⟨b, j, none⟩).getD (.int .i64 0)))[j]? = some u := fun j u hj hu => by
    rw [List.getElem?_map, List.getElem?_range hj]
    simp [hu]
  refine ⟨b, (List.range (ms.length * 3)).map (fun j => (w.cell? ⟨b, j, none⟩).getD (.int .i64 0)), hA, hT, hz, ⟨by simp, fun u hu => ?_, fun i d hd => ?_⟩, fun j u hu => ?_⟩
  · obtain ⟨j, hj, rfl⟩ := List.mem_map.1 hu
    obtain ⟨v, hv, h1⟩ := cell j (by simpa using hj)
    rw [hv]
    exact h1
  · have hi : i < ms.length := (List.getElem?_eq_some_iff.1 hd).1
    obtain ⟨u, c, c0, c1, c2, c3⟩ := hc i d hd
    exact ⟨u, c, hget _ _ (by omega) c0, hget _ _ (by omega) c1, hget _ _ (by omega) c2, c3⟩
  · have hj : j < ms.length * 3 := by
      have := (List.getElem?_eq_some_iff.1 hu).1
      simpa using this
    obtain ⟨v, hv, _⟩ := cell j hj
    rw [hget j v hj hv] at hu
    obtain rfl := Option.some.inj hu
    rw [raddr]
    exact hv
theorem row_maps {T : Nat → Prop} {w : World} {B n c : Nat} {A : Option Addr} {cs : List Value} {ms : List RMap} (h : w.ownsRow B 116 3 (.slice A n c) n cs) (hr : RowOf T w cs ms) (hn : n = ms.length) (hT : ∀ b, B ≤ b → b < w.heap.size → T b) : MapsAt T w A ms := fun h0 => by
  obtain ⟨g, cap, hv⟩ := row_some h (by omega)
  simp only [Value.slice.injEq, true_and] at hv
  obtain ⟨rfl, rfl⟩ := hv
  refine ⟨g, rfl, hT g (row_kind h (g := g) rfl).1 (row_lt h rfl), row_lt h rfl, fun i d hd => ?_⟩
  obtain ⟨u, c, c0, c1, c2, c3⟩ := hr.each i d hd
  have d0 := h.cells (g := g) rfl _ _ c0
  have d1 := h.cells (g := g) rfl _ _ c1
  have d2 := h.cells (g := g) rfl _ _ c2
  rw [raddr] at d0 d1 d2
  exact ⟨u, c, d0, d1, d2, c3⟩
theorem RowOf.set {T : Nat → Prop} {w : World} {cs : List Value} {ms : List RMap} (h : RowOf T w cs ms) (k : Nat) {Al : Option Addr} {cl : Nat} {l : PL} (hl : PrAt T w Al l) :
    RowOf T w (cs.set (k * 3 + 2) (.slice Al l.length cl)) (ms.modify k (fun d => { d with pairs := l })) := by
  refine ⟨by simp [h.len], fun u hu => ?_, fun i d hd => ?_⟩
  · rcases List.mem_or_eq_of_mem_set hu with hu | rfl
    · exact h.one u hu
    · rfl
  · rw [List.getElem?_modify] at hd
    cases hm : ms[i]? with
    | none => rw [hm] at hd; simp at hd
    | some x =>
      rw [hm] at hd
      obtain ⟨u, c, c0, c1, c2, c3⟩ := h.each i x hm
      have hi : i < ms.length := (List.getElem?_eq_some_iff.1 hm).1
      have hl3 := h.len
      by_cases hk : k = i
      · subst hk
        simp at hd
        subst hd
        refine ⟨Al, cl, ?_, ?_, ?_, hl⟩
        · rw [List.getElem?_set_ne (by omega)]; exact c0
        · rw [List.getElem?_set_ne (by omega)]; exact c1
        · rw [List.getElem?_set_self (by omega)]
      · simp [hk] at hd
        subst hd
        refine ⟨u, c, ?_, ?_, ?_, c3⟩
        · rw [List.getElem?_set_ne (by omega)]; exact c0
        · rw [List.getElem?_set_ne (by omega)]; exact c1
        · rw [List.getElem?_set_ne (by omega)]; exact c2
theorem rowns_keep {w w' : World} {base : Nat} {e : TypeId} {size g n cap : Nat} {xs : List Value} (h : w.ownsRow base e size (.slice (some ⟨g, 0, none⟩) n cap) n xs) (hb : w'.heap[g]? = w.heap[g]?) : w'.ownsRow base e size (.slice (some ⟨g, 0, none⟩) n cap) n xs := by
  obtain ⟨o1, o2⟩ := h
  refine ⟨o1, ?_⟩
  rcases o2 with ⟨h1, _⟩ | ⟨g', cap', cur, h1, h2, h3, h4⟩
  · simp at h1
  · have hg : g = g' := by simp at h1; exact h1.1
    subst hg
    exact Or.inr ⟨g, cap', cur, h1, h2, hb.trans h3, h4⟩
theorem rblk_set {w : World} {g : Nat} {t : TypeId} {cs : Array Value} (h : w.heap[g]? = some (.cells cs t (0, 0))) (i : Nat) (u : Value) : (w.setCell ⟨g, i, none⟩ u).heap[g]? = some (.cells (cs.setIfInBounds i u) t (0, 0)) := by
  simp [World.setCell, Array.getElem?_modify, h]
theorem rowns_set {w : World} {base : Nat} {e : TypeId} {size g n cap : Nat} {xs : List Value} (h : w.ownsRow base e size (.slice (some ⟨g, 0, none⟩) n cap) n xs) (j : Nat) (hj : j < n * size) (u : Value) : (w.setCell ⟨g, j, none⟩ u).ownsRow base e size (.slice (some ⟨g, 0, none⟩) n cap) n (xs.set j u) := by
  obtain ⟨o1, o2⟩ := h
  refine ⟨by simp [o1], ?_⟩
  rcases o2 with ⟨h1, _⟩ | ⟨g', cap', cur, h1, h2, h3, h4, h5, h6, h7⟩
  · simp at h1
  · simp only [Value.slice.injEq, Option.some.injEq, Addr.mk.injEq, and_true, true_and] at h1
    obtain ⟨rfl, rfl⟩ := h1
    refine Or.inr ⟨g, cap, _, rfl, h2, rblk_set h3 j u, h4, h5, by simp [h6], ?_⟩
    rw [Array.toList_setIfInBounds, List.take_set, h7]
theorem rblk_frozen {w : World} {g : Nat} {t : TypeId} {cs : Array Value} (h : w.heap[g]? = some (.cells cs t (0, 0))) (i : Nat) : w.frozen? ⟨g, i, none⟩ = false := by
  simp [World.frozen?, h]
theorem mem_modify {α : Type} {l : List α} {k : Nat} {f : α → α} {x : α} (h : x ∈ l.modify k f) : x ∈ l ∨ ∃ y ∈ l, x = f y := by
  obtain ⟨i, hi, e⟩ := List.getElem_of_mem h
  rw [List.getElem_modify] at e
  have hi' : i < l.length := by simpa using hi
  by_cases hk : k = i
  · rw [if_pos hk] at e
    exact Or.inr ⟨_, List.getElem_mem hi', e.symm⟩
  · rw [if_neg hk] at e
    exact Or.inl (e ▸ List.getElem_mem hi')
theorem RFit.set {g : RFam} (h : RFit g) (k : Nat) {l : PL} (hn : l.length ≤ 1048576) (hk : ∀ x ∈ l, x.1.size ≤ 64) : RFit (setM g k l) := by
  refine ⟨h.m0, h.m1, by simp [setM]; exact h.lm, h.lw, fun d hd => ?_, fun d hd => ?_, h.pos⟩
  · rcases mem_modify hd with hd | ⟨y, _, rfl⟩
    · exact h.lp d hd
    · exact hn
  · rcases mem_modify hd with hd | ⟨y, _, rfl⟩
    · exact h.keys d hd
    · exact hk
theorem map_info : (Tryz.prog.info? 116).map (fun i => (i.zero, i.size, i.bytes)) = some (some (.agg #[.int .i64 0, .bool false, .slice none 0 0]), 3, 40) := by kernel_rfl
set_option maxRecDepth 100000 in
set_option maxHeartbeats 1000000 in
theorem rset_any (T : Nat → Prop) (w : World) (A D : Option Addr) (c d : Nat) (g : RFam) (h : RFamAt T w A D g) (k : Nat) (hk : k < g.maps.length) (Al : Option Addr) (cl : Nat) (l : PL) (hl : PrAt T w Al l) (hn : l.length ≤ 1048576) (hkeys : ∀ x ∈ l, x.1.size ≤ 64) :
    Calls Tryz.prog 52 #[rfamV g A c D d, .int .i64 k, .slice Al l.length cl] w fun e w' => ∃ A' c', e = .returned (rfamV (setM g k l) A' c' D d) ∧ RFamAt (fun b => T b ∨ NewB w w' b) w' A' D (setM g k l) ∧ Below w.heap.size w w' := by
  obtain ⟨b, cs, hA, hT, hz, hr, hc⟩ := maps_row h.maps (by omega)
  subst hA
  have hlm := h.fit.lm
  have R := Lib.hid hr
  have C := Lib.hid hc
  have H := Lib.hid h
  have HL := Lib.hid hl
  clear hr hc h hl
  obtain ⟨W2, hW2⟩ : ∃ W2, W2 = (w.alloc (.cells #[.int .u64 g.mask, .slice (some ⟨b, 0, none⟩) g.maps.length c, .slice D g.walks.length d] 72)).alloc (.cells #[.int .u64 0, .slice none 0 0, .slice none 0 0] 72) := ⟨_, rfl⟩
  have hs2 : W2.heap.size = w.heap.size + 1 + 1 := by rw [hW2]; simp
  have hb2 : Below w.heap.size w W2 := by rw [hW2]; exact ((Below.refl _ _).alloc (Nat.le_refl _) _).alloc (by simp) _
  have x0 : W2.heap[w.heap.size]? = some (.cells #[.int .u64 g.mask, .slice (some ⟨b, 0, none⟩) g.maps.length c, .slice D g.walks.length d] 72 (0, 0)) := by
    rw [hW2]
    exact (Below.heap_alloc _ _ _ (by simp)).trans (heap_alloc w _).1
  have x1 : W2.heap[w.heap.size + 1]? = some (.cells #[.int .u64 0, .slice none 0 0, .slice none 0 0] 72 (0, 0)) := by
    rw [hW2]
    exact newfam_block w _ _
  have HW := Lib.hid hW2
  have HS := Lib.hid hs2
  have HB := Lib.hid hb2
  have X0 := Lib.hid x0
  have X1 := Lib.hid x1
  clear hW2 hs2 hb2 x0 x1
  simp only [rfamV]
  go_enter Tryz.func52, Tryz.ntmps52
  go_wp2_with (at_builtin; refine stopAt ?_)
  unfold StopAt
  rw [← HW.out, ← HS.out]
  refine wpList_app 69 116 Tryz.underlying69 _ 3 40 map_info rfl (by decide) rfl _ _ rfl W2.heap.size _ _ _ _ rfl (World.ownsRow_lit W2 #[] 0 (Nat.le_refl _) (by unfold maxLen; omega) rfl) ⟨b, 0, none⟩ g.maps.length c cs rfl R.out.len ?_ R.out.one (by simp) (by unfold maxLen; omega) (by omega) ?_
  · intro j u hu
    have hbw : b < W2.heap.size := by rw [HS.out]; omega
    have e1 := (Below.heap_alloc W2 (.cells #[] 116) b hbw).trans (HB.out.block b hz)
    have e2 := C.out j u hu
    rw [raddr] at e2 ⊢
    exact (World.cell?_of_block (a := ⟨b, j, none⟩) e1).trans e2
  intro a3 c3 w3 ho3 hg3
  simp only [Nat.zero_add, List.nil_append] at ho3
  obtain ⟨g3, c3', hv⟩ := row_some ho3 (by omega)
  simp only [Value.slice.injEq, true_and] at hv
  obtain ⟨rfl, rfl⟩ := hv
  have O3 := Lib.hid ho3
  have hg0 : W2.heap.size ≤ g3 := (row_kind ho3 (g := g3) rfl).1
  have hgl : g3 < w3.heap.size := row_lt ho3 rfl
  have s2 := HS.out
  have nrow : ∀ q, q < W2.heap.size → w3.heap[q]? = W2.heap[q]? := fun q hq => grown_block hg3 hq (fun e => by have e' : W2.heap.size = q := Option.some.inj e; omega)
  have z0 := (nrow w.heap.size (by omega)).trans X0.out
  have z1 := (nrow (w.heap.size + 1) (by omega)).trans X1.out
  obtain ⟨_, cur, hcur⟩ := row_kind ho3 (g := g3) rfl
  obtain ⟨uo, co, _, _, k2, _⟩ := R.out.each k _ (List.getElem?_eq_getElem hk)
  have y3 := ho3.cells (g := g3) rfl (k * 3 + 2) _ k2
  rw [raddr] at y3
  have f3 := rblk_frozen hcur (k * 3 + 2)
  have y0 : w3.cell? ⟨w.heap.size, 0, none⟩ = some (.int .u64 g.mask) := blk_cell z0 0
  have y1 : w3.cell? ⟨w.heap.size, 1, none⟩ = some (.slice (some ⟨b, 0, none⟩) g.maps.length c) := blk_cell z0 1
  have y2 : w3.cell? ⟨w.heap.size, 2, none⟩ = some (.slice D g.walks.length d) := blk_cell z0 2
  have r0 : w3.cell? ⟨w.heap.size + 1, 0, none⟩ = some (.int .u64 0) := blk_cell z1 0
  have r1 : w3.cell? ⟨w.heap.size + 1, 1, none⟩ = some (.slice none 0 0) := blk_cell z1 1
  have r2 : w3.cell? ⟨w.heap.size + 1, 2, none⟩ = some (.slice none 0 0) := blk_cell z1 2
  have f0 := rblk_frozen z0 1
  have q0 := rblk_frozen z1 0
  have q1 := rblk_frozen z1 1
  have q2 := rblk_frozen z1 2
  have B3 := Lib.hid (HB.out.trans (grown_below hg3 (by omega) (fun q hq => by have e' : W2.heap.size = q := Option.some.inj hq; omega)))
  have n1 : ¬ g3 = w.heap.size := by omega
  have n2 : ¬ w.heap.size = g3 := by omega
  have n3 : ¬ g3 = w.heap.size + 1 := by omega
  have n4 : ¬ w.heap.size + 1 = g3 := by omega
  have hk0 : (0 : Int) ≤ k := by omega
  have hk1 : (k : Int) < g.maps.length := by omega
  have NR := Lib.hid nrow
  clear ho3 hg3 z0 z1 hcur k2 nrow
  go_wp2_with fail
  try simp only [Exit.inBlock, Exit.then]
  have hbk : ∀ (W : World) (x y z u : Value), ((((W.setCell ⟨w.heap.size, 1, none⟩ x).setCell ⟨w.heap.size + 1, 0, none⟩ y).setCell ⟨w.heap.size + 1, 1, none⟩ z).setCell ⟨w.heap.size + 1, 2, none⟩ u).heap[g3]? = W.heap[g3]? := fun W x y z u =>
    (Below.heap_setCell _ _ _ _ n3).trans ((Below.heap_setCell _ _ _ _ n3).trans ((Below.heap_setCell _ _ _ _ n3).trans (Below.heap_setCell _ _ _ _ n1)))
  have O5 := Lib.hid (fun x y z u => rowns_keep (rowns_set O3.out (k * 3 + 2) (by omega) (.slice Al l.length cl)) (hbk _ x y z u))
  have B5 := Lib.hid (fun x y z u => (((((B3.out.setCell (p := ⟨g3, k * 3 + 2, none⟩) (by show w.heap.size ≤ g3; omega) (.slice Al l.length cl)).setCell (p := ⟨w.heap.size, 1, none⟩) (Nat.le_refl _) x).setCell (p := ⟨w.heap.size + 1, 0, none⟩) (by show w.heap.size ≤ w.heap.size + 1; omega) y).setCell (p := ⟨w.heap.size + 1, 1, none⟩) (by show w.heap.size ≤ w.heap.size + 1; omega) z).setCell (p := ⟨w.heap.size + 1, 2, none⟩) (by show w.heap.size ≤ w.heap.size + 1; omega) u))
  have ZZ : ∀ (x y z u v : Value), (((((w3.setCell ⟨g3, k * 3 + 2, none⟩ v).setCell ⟨w.heap.size, 1, none⟩ x).setCell ⟨w.heap.size + 1, 0, none⟩ y).setCell ⟨w.heap.size + 1, 1, none⟩ z).setCell ⟨w.heap.size + 1, 2, none⟩ u).heap.size = w3.heap.size := fun x y z u v => by simp [World.setCell]
  refine bodyPost_ret (v := rfamV (setM g k l) (some ⟨g3, 0, none⟩) c3 D d) (by simp [results, Tryz.results52, go_sem, rfamV, setM, y0, y1, y2, r0, r1, r2, f0, q0, q1, q2, n1, n2, n3, n4]) rfl ?_
  refine ⟨_, _, rfl, ⟨?_, ?_, H.out.fit.set k hn hkeys⟩, B5.out _ _ _ _⟩
  · refine row_maps (B := W2.heap.size) (c := c3) (n := g.maps.length) (O5.out _ _ _ _) (((R.out.keep (Kept.of_below (B5.out _ _ _ _))).set k (HL.out.keep (Kept.of_below (B5.out _ _ _ _)))).more (fun i hi => Or.inl hi)) (by simp [setM]) (fun q h1 h2 => Or.inr ⟨by omega, h2⟩)
  · exact (H.out.walks.keep (Kept.of_below (B5.out _ _ _ _))).more (fun i hi => Or.inl hi)
end Go.Proofs.YtbmoehndnbbhcaaGreatDoor
