/- The walks of the laws on hash values, second part. -/
import Derived.Test.YtohopmfhefndeaaLaws
import Derived.Test.YtohopmfhefndeaaOrder
namespace Go.Proofs.Ytohopmfhefndeaa
set_option linter.unusedVariables false
open Go.RowKit
theorem slices_walk (h k l s : Int) (h0 : 0 ≤ h) (h1 : h ≤ 18446744073709551615) (k0 : 0 ≤ k) (k1 : k ≤ 18446744073709551615) (s0 : 0 ≤ s) (s1 : s ≤ 255) (w : World) :
    Calls Try.prog 4 #[.int .u64 h, .int .u64 k, .int .i64 l, .int .u8 s] w fun e w' => e = .returned (.bool true) ∧ w = w' := by
  have hx := xor_bd h k h0 h1 k0
  have hc : (cm h (bits .xor .u64 h (IntKind.u64.wrap (2 ^ (k % 64).toNat))) == k % 64 / 6) = true := by rw [xor_cm h k h0 h1 k0]; simp
  go_enter Try.func4, Try.ntmps4
  go_wp2_with (first | (go_at_call 10; refine (awake_any _).mono ?_; rintro e w' ⟨rfl, rfl⟩) | (go_at_call 15; refine (slice_any _ _ _ h0 h1).mono ?_; rintro e w' ⟨rfl, rfl⟩) | (go_at_call 16; refine (slice_ref _ _ _ h0 h1).mono ?_; rintro e w' ⟨rfl, rfl⟩) | (go_at_call 17; ((with_reducible refine (common_any _ _ _ (by omega) (by omega) (by omega) (by omega)).mono ?_); rintro e w' ⟨rfl, rfl⟩)) | (go_at_call 18; refine (common_ref _ _ _ h0 h1 k0 k1).mono ?_; rintro e w' ⟨rfl, rfl⟩))
  go_ret
  exact ⟨rfl, rfl⟩
theorem rebuilds_walk (h : Int) (h0 : 0 ≤ h) (h1 : h ≤ 18446744073709551615) (w : World) :
    Calls Try.prog 5 #[.int .u64 h] w fun e w' => e = .returned (.bool true) ∧ w = w' := by
  go_enter Try.func5, Try.ntmps5
  go_wp2_with fail
  go_loop [3, 4] (fun n i => ∃ (j : Int), -1 ≤ j ∧ j ≤ 10 ∧ i = .int .i64 j ∧ n = .int .u64 (up h j)) (fun _ i => (intOf i + 1).toNat)
  case atStart => exact ⟨10, by omega, by omega, rfl, by rw [up_start h h0 h1]⟩
  case round =>
    obtain ⟨j, j0, j1, rfl, rfl⟩ := hrel
    have hb := sl_bd h j
    have hu := up_bd h j h0 h1
    by_cases hlt : 0 ≤ j
    · have X := Lib.hid (up_step h j h0 h1 hlt j1)
      go_wp2_with (go_at_call 15; refine (slice_any _ _ _ h0 h1).mono ?_; rintro e w' ⟨rfl, rfl⟩)
      go_round
      case rel => exact ⟨j - 1, by omega, by omega, rfl, congrArg _ X.out⟩
      case measure => simp [intOf]; omega
    · have X : (up h j == h) = true := by rw [up_end h j h0 (by omega)]; simp
      go_wp2_with (go_at_call 10; refine (awake_any _).mono ?_; rintro e w' ⟨rfl, rfl⟩)
      go_ret
      exact ⟨rfl, rfl⟩
theorem masks_walk (a0 : ByteArray) (m n l : Int) (w0 : a0.size ≤ maxLen) (m0 : 0 ≤ m) (m1 : m ≤ 18446744073709551615) (n0 : 0 ≤ n) (n1 : n ≤ 18446744073709551615) (l0 : 0 ≤ l) (l1 : l ≤ 255) (w : World) :
    Calls Try.prog 6 #[.string a0, .int .u64 m, .int .u64 n, .int .u8 l] w fun e w' => e = .returned (.bool true) ∧ w = w' := by
  have ho := one_bd (l % 10) (by omega) (by omega)
  have hs := (one_slice a0.data.toList (l % 10) (by omega) (by omega))
  have hs1 : (sl (hashM a0.data.toList (IntKind.u64.wrap (63 * 2 ^ (6 * (l % 10)).toNat))) (l % 10) == sl (hashM a0.data.toList 18446744073709551615) (l % 10)) = true := by rw [hs]; simp
  clear hs
  have hn : (sl (hashM a0.data.toList (IntKind.u64.wrap (63 * 2 ^ (6 * (l % 10)).toNat))) (l % 10 + 1) == 0) = true := by rw [one_next a0.data.toList (l % 10) (by omega) (by omega)]; rfl
  have ha : (bits .and .u64 (hashM a0.data.toList m) n == hashM a0.data.toList (bits .and .u64 m n)) = true := by rw [hashM_and _ _ _ m0 m1 n0 n1]; simp
  have hab := and_bd m n m0 m1 n0 n1
  have b1 := hashM_bd a0.data.toList (IntKind.u64.wrap (63 * 2 ^ (6 * (l % 10)).toNat))
  have b2 := hashM_bd a0.data.toList 18446744073709551615
  go_enter Try.func6, Try.ntmps6
  go_wp2_with (first | (go_at_call 10; refine (awake_any _).mono ?_; rintro e w' ⟨rfl, rfl⟩) | (go_at_call 13; ((with_reducible refine (hash_any _ _ _ w0 (by omega) (by omega)).mono ?_); rintro e w' ⟨rfl, rfl⟩)) | (go_at_call 15; ((with_reducible refine (slice_any _ _ _ (by omega) (by omega)).mono ?_); rintro e w' ⟨rfl, rfl⟩)))
  go_ret
  exact ⟨rfl, rfl⟩
theorem one_byte (b : Int) (w : World) :
    (convert 33 9 (.slice (some ⟨w.heap.size, 0, none⟩) 1 1)).run Try.prog (w.alloc (.cells #[.int .u8 b] 5)) = .ok (.string ⟨#[UInt8.ofNat b.toNat]⟩) (w.alloc (.cells #[.int .u8 b] 5)) := by
  rw [run_convert_bytes_string _ 33 9 5 _ _ _ Try.underlying33 Try.underlying5 Try.underlying9]
  rw [run_bytesToString _ _ _ _ [b] (by simp [go_sem, loadCells])]
  rfl
theorem ofNat_toNat (b : Int) (b0 : 0 ≤ b) (b1 : b ≤ 255) : ((UInt8.ofNat b.toNat).toNat : Int) = b := by
  rw [UInt8.toNat_ofNat']; omega
theorem append_one (a0 : ByteArray) (c : UInt8) : (a0 ++ ByteArray.mk #[c]).data.toList = a0.data.toList ++ [c] := by
  simp [ByteArray.data_append]
theorem steps_walk (a0 : ByteArray) (b : Int) (w0 : a0.size ≤ 140737488351232) (b0 : 0 ≤ b) (b1 : b ≤ 255) (w : World) :
    Calls Try.prog 7 #[.string a0, .int .u8 b] w fun e w' => e = .returned (.bool true) ∧ Grown w w' := by
  have w1 : a0.size ≤ maxLen := by unfold maxLen; omega
  have w2 : (a0 ++ ByteArray.mk #[UInt8.ofNat b.toNat]).size ≤ maxLen := by rw [ByteArray.size_append', show (ByteArray.mk #[UInt8.ofNat b.toNat]).size = 1 from rfl]; unfold maxLen; omega
  have kc := fun w => one_byte b w
  have hh : (hashM (a0.data.toList ++ [UInt8.ofNat b.toNat]) 18446744073709551615 == IntKind.u64.wrap (bits .xor .u64 (hashM a0.data.toList 18446744073709551615) b * 1099511628211)) = true := by
    have := hashI_step a0.data.toList (UInt8.ofNat b.toNat)
    rw [ofNat_toNat b b0 b1] at this
    rw [hashM_all, hashM_all, this]
    simp
  have he : (hashM [] 18446744073709551615 == 14695981039346656037) = true := by decide +kernel
  go_enter Try.func7, Try.ntmps7
  go_wp2_with (first | (go_at_call 10; refine (awake_any _).mono ?_; rintro e w' ⟨rfl, rfl⟩) | (go_at_call 13; ((with_reducible refine (hash_any _ _ _ (by first | assumption | decide) (by omega) (by omega)).mono ?_); rintro e w' ⟨rfl, rfl⟩)))
  go_ret
  exact ⟨rfl, Grown.alloc (Grown.refl _) _ _⟩
theorem order_walk (h k : Int) (a b : ByteArray) (h0 : 0 ≤ h) (h1 : h ≤ 18446744073709551615) (k0 : 0 ≤ k) (k1 : k ≤ 18446744073709551615) (w : World) :
    Calls Try.prog 8 #[.int .u64 h, .int .u64 k, .string a, .string b] w fun e w' => e = .returned (.bool true) ∧ w = w' := by
  have hl : (lessB h a.toList h b.toList == Op.bytesLess a.toList b.toList) = true := by rw [lessB_out _ _ _ _ (by rw [cm_self]; omega)]; simp
  go_enter Try.func8, Try.ntmps8
  go_wp2_with (first | (go_at_call 10; refine (awake_any _).mono ?_; rintro e w' ⟨rfl, rfl⟩) | (go_at_call 19; refine (less_any _ _ _ _ _ (by omega) (by omega) (by omega) (by omega)).mono ?_; rintro e w' ⟨rfl, rfl⟩) | (go_at_call 20; refine (less_ref _ _ _ _ _ (by omega) (by omega) (by omega) (by omega)).mono ?_; rintro e w' ⟨rfl, rfl⟩))
  go_ret
  exact ⟨rfl, rfl⟩
theorem total_walk (h k m : Int) (a b c : ByteArray) (h0 : 0 ≤ h) (h1 : h ≤ 18446744073709551615) (k0 : 0 ≤ k) (k1 : k ≤ 18446744073709551615) (m0 : 0 ≤ m) (m1 : m ≤ 18446744073709551615) (w : World) :
    Calls Try.prog 9 #[.int .u64 h, .int .u64 k, .int .u64 m, .string a, .string b, .string c] w fun e w' => e = .returned (.bool true) ∧ w = w' := by
  have hi := less_irrefl h a.toList
  rcases hx : lessB h a.toList k b.toList with _ | _
  · rcases hy : lessB k b.toList h a.toList with _ | _
    · obtain ⟨e1, e2⟩ := less_total h a.toList k b.toList h0 h1 k0 k1 hx hy
      have e3 := bytes_ext a b e2
      subst e1 e3
      clear e2 hx hy
      go_enter Try.func9, Try.ntmps9
      go_wp2_with (first | (go_at_call 10; refine (awake_any _).mono ?_; rintro e w' ⟨rfl, rfl⟩) | (go_at_call 19; ((with_reducible refine (less_any _ _ _ _ _ (by omega) (by omega) (by omega) (by omega)).mono ?_); rintro e w' ⟨rfl, rfl⟩)))
      go_ret
      exact ⟨rfl, rfl⟩
    · go_enter Try.func9, Try.ntmps9
      go_wp2_with (first | (go_at_call 10; refine (awake_any _).mono ?_; rintro e w' ⟨rfl, rfl⟩) | (go_at_call 19; ((with_reducible refine (less_any _ _ _ _ _ (by omega) (by omega) (by omega) (by omega)).mono ?_); rintro e w' ⟨rfl, rfl⟩)))
      go_ret
      exact ⟨rfl, rfl⟩
  · have hy := less_asymm _ _ _ _ hx
    rcases hz : lessB k b.toList m c.toList with _ | _
    · go_enter Try.func9, Try.ntmps9
      go_wp2_with (first | (go_at_call 10; refine (awake_any _).mono ?_; rintro e w' ⟨rfl, rfl⟩) | (go_at_call 19; ((with_reducible refine (less_any _ _ _ _ _ (by omega) (by omega) (by omega) (by omega)).mono ?_); rintro e w' ⟨rfl, rfl⟩)))
      go_ret
      exact ⟨rfl, rfl⟩
    · have ht := less_trans _ _ _ _ _ _ hx hz
      go_enter Try.func9, Try.ntmps9
      go_wp2_with (first | (go_at_call 10; refine (awake_any _).mono ?_; rintro e w' ⟨rfl, rfl⟩) | (go_at_call 19; ((with_reducible refine (less_any _ _ _ _ _ (by omega) (by omega) (by omega) (by omega)).mono ?_); rintro e w' ⟨rfl, rfl⟩)))
      go_ret
      exact ⟨rfl, rfl⟩
end Go.Proofs.Ytohopmfhefndeaa
