import Derived.Test.YtfkcpooljkpfpaaFiveW
namespace Go.Proofs.Ytfkcpooljkpfpaa
open Go.RowKit Go

/-- Two numbers laid one behind the other are one number. -/
theorem put_joins (A B n m : Nat) (h : n + m ≤ 64) : putBits A n ++ putBits B m = putBits ((A * 2 ^ m % 18446744073709551616) ||| (B % 2 ^ m)) (n + m) := by
  apply bits_ext (by simp [putBits_length])
  intro i hi
  rw [List.length_append, putBits_length, putBits_length] at hi
  rw [putBits_bit _ _ _ hi, Nat.testBit_or, show (18446744073709551616 : Nat) = 2 ^ 64 from rfl, Nat.testBit_mod_two_pow, Nat.testBit_mod_two_pow, Nat.testBit_mul_two_pow]
  by_cases hn : i < n
  · rw [bitAt_append_left (by rw [putBits_length]; exact hn), putBits_bit _ _ _ hn]
    have e1 : n + m - 1 - i - m = n - 1 - i := by omega
    have e2 : ¬ n + m - 1 - i < m := by omega
    have e3 : n + m - 1 - i < 64 := by omega
    have e4 : m ≤ n + m - 1 - i := by omega
    simp [e1, e2, e3, e4]
  · obtain ⟨j, rfl⟩ : ∃ j, i = n + j := ⟨i - n, by omega⟩
    have := bitAt_append_right (putBits A n) (putBits B m) j
    rw [putBits_length] at this
    rw [this, putBits_bit _ _ _ (by omega)]
    have e1 : n + m - 1 - (n + j) = m - 1 - j := by omega
    have e2 : m - 1 - j < m := by omega
    have e3 : ¬ m ≤ m - 1 - j := by omega
    rw [e1]
    simp [e2, e3]

set_option maxRecDepth 20000 in
set_option maxHeartbeats 4000000 in
theorem bitsJoins_any (A B : Nat) (hA : A < 18446744073709551616) (hB : B < 18446744073709551616) (wide more : Int) (h1 : 0 ≤ wide ∧ wide ≤ 255) (h2 : 0 ≤ more ∧ more ≤ 255) (w : World) :
    Calls Try.prog 4 #[.int .u64 (A : Int), .int .u64 (B : Int), .int .u8 wide, .int .u8 more] w fun e w' => e = .returned (.bool true) ∧ Fr No w w' := by
  obtain ⟨n, hn⟩ := Int.eq_ofNat_of_zero_le (show 0 ≤ wide % 33 by omega)
  obtain ⟨m, hm⟩ := Int.eq_ofNat_of_zero_le (show 0 ≤ more % 33 by omega)
  have hn33 : n < 33 := by omega
  have hm33 : m < 33 := by omega
  have hcn : clamp (n : Int) = n := by unfold clamp; omega
  have hcm : clamp (m : Int) = m := by unfold clamp; omega
  have hcnm : clamp ((n : Int) + (m : Int)) = n + m := by unfold clamp; omega
  have W1 : Wr ((w.alloc (.cells #[.slice none 0 0, .int .i64 0] 37)).alloc (.cells #[.slice none 0 0, .int .i64 0] 37)) w.heap.size (.slice none 0 0) [] :=
    (wr_new w).fr ((Fr.refl No _).alloc _) (fun k => k) (fun _ _ k => k)
  have W2 : Wr ((w.alloc (.cells #[.slice none 0 0, .int .i64 0] 37)).alloc (.cells #[.slice none 0 0, .int .i64 0] 37)) (w.heap.size + 1) (.slice none 0 0) [] := by
    have := wr_new (w.alloc (.cells #[.slice none 0 0, .int .i64 0] 37))
    rw [show (w.alloc (.cells #[.slice none 0 0, .int .i64 0] 37)).heap.size = w.heap.size + 1 by simp] at this
    exact this
  have F0 := ((Fr.refl No w).alloc (.cells #[.slice none 0 0, .int .i64 0] 37)).alloc (.cells #[.slice none 0 0, .int .i64 0] 37)
  have hX : A * 2 ^ m % 18446744073709551616 ||| B % 2 ^ m < 18446744073709551616 := by
    have h1 : A * 2 ^ m % 18446744073709551616 < 2 ^ 64 := Nat.mod_lt _ (by decide)
    have h2 : B % 2 ^ m < 2 ^ 64 := Nat.lt_of_le_of_lt (Nat.mod_le _ _) hB
    exact Nat.or_lt_two_pow h1 h2
  have HJ := Lib.hid (put_joins A B n m (by omega))
  obtain ⟨X, hXX⟩ : ∃ X, A * 2 ^ m % 18446744073709551616 ||| B % 2 ^ m = X := ⟨_, rfl⟩
  rw [hXX] at hX HJ
  have HXX := Lib.hid hXX
  have HF0 := Lib.hid F0
  have HW2 := Lib.hid W2
  have HP1 := Lib.hid (put_any W1 (by simp) A hA (n : Int))
  rw [hcn] at HP1
  have hsz : ∀ Z : Obj, ((w.alloc Z).alloc Z).heap.size = w.heap.size + 2 := by intro Z; simp
  have hs0 : Hid (∀ v1, Kin ((w.alloc (.cells #[.slice none 0 0, .int .i64 0] 37)).alloc (.cells #[.slice none 0 0, .int .i64 0] 37)) (.slice none 0 0) v1 → v1.ownBlock ≠ some (w.heap.size + 1)) := by
    show ∀ v1, _
    intro v1 hk e
    rcases hk with h | ⟨k, h, hk⟩
    · rw [h] at e; simp [Value.ownBlock] at e
    · rw [h] at e; cases e; rw [hsz] at hk; omega
  clear W1 W2 F0 hXX hcn
  go_enter Try.func4, Try.ntmps4
  go_wp2_with fail
  refine HP1.out.mono ?_
  rintro e w1 ⟨rfl, v1, W1, F1, K1⟩
  have HP2 := Lib.hid (put_any W1 (by simp [putBits_length]; omega) B hB (m : Int))
  rw [hcm] at HP2
  clear W1 HP1 hcm
  go_wp2_with fail
  refine HP2.out.mono ?_
  rintro e w2 ⟨rfl, v2, W2, F2, K2⟩
  have G2 := ws_trans F1 K1 F2
  have KK := K1.trans K2 F1.size
  have V2 := HW2.out.fr G2 (by
    rintro (e | e)
    · omega
    · simp [Value.ownBlock] at e) (fun k hk => by simp [Value.ownBlock] at hk)
  have HP3 := Lib.hid (put_any V2 (by simp) X hX ((n : Int) + (m : Int)))
  rw [hcnm] at HP3
  clear F1 F2 K1 K2 HP2 V2 HW2 hcnm
  have HG2 := Lib.hid G2
  have HKK := Lib.hid KK
  have HWW := Lib.hid W2
  clear G2 KK W2
  obtain ⟨P, hP⟩ : ∃ P, 2 ^ m = P := ⟨_, rfl⟩
  have hP0 : 0 < P := by rw [← hP]; exact Nat.pow_pos (by omega)
  have hP32 : P ≤ 4294967296 := by
    rw [← hP]
    have : 2 ^ m ≤ 2 ^ 32 := Nat.pow_le_pow_right (by omega) (by omega)
    exact this
  have e0 : ((2 : Int) ^ m) = (P : Int) := by rw [← hP]; simp
  have e1 : IntKind.u64.wrap (P : Int) = (P : Int) := by rw [IntKind.wrap_u64]; omega
  have eX : bits .or .u64 (IntKind.u64.wrap ((A : Int) * (P : Int))) ((B : Int) % (P : Int)) = (X : Int) := by
    have h1 : IntKind.u64.wrap ((A : Int) * (P : Int)) = ((A * P % 18446744073709551616 : Nat) : Int) := by
      rw [IntKind.wrap_u64]; simp
    have h2 : ((B : Int) % (P : Int)) = ((B % P : Nat) : Int) := by simp
    rw [h1, h2, u64_or_nat _ _ (Nat.mod_lt _ (by decide)) (Nat.lt_of_le_of_lt (Nat.mod_le _ _) hB), ← HXX.out, hP]
  have HEX := Lib.hid eX
  clear hP eX hsz
  go_wp2_with fail
  rw [HEX.out]
  refine HP3.out.mono ?_
  rintro e w3 ⟨rfl, v3, W3, F3, K3⟩
  have HW3 := Lib.hid W3
  clear HP3 W3
  go_wp2_with fail
  refine (five_any _).mono ?_
  rintro e w4 ⟨rfl, F4⟩
  have V1 : Wr w4 w.heap.size v2 ([] ++ putBits A n ++ putBits B m) := (HWW.out.fr F3 (by
    rintro (e | e)
    · omega
    · simp [Value.ownBlock] at e) (fun k hk => by
    rintro (e | e)
    · exact hs0.out v2 HKK.out (by rw [hk, e])
    · simp [Value.ownBlock] at e)).fr F4 (fun k => k) (fun _ _ k => k)
  have V3 : Wr w4 (w.heap.size + 1) v3 ([] ++ putBits X (n + m)) := HW3.out.fr F4 (fun k => k) (fun _ _ k => k)
  rw [List.nil_append] at V1 V3
  rw [HJ.out] at V1
  have HLN := Lib.hid (len_any V1)
  rw [putBits_length] at HLN
  have HV1 := Lib.hid V1
  have HV3 := Lib.hid V3
  have G4 : Fr No w w4 := by
    refine ((HF0.out.trans HG2.out (fun i hi => .inr ?_)).trans F3 (fun i hi => .inr ?_)).trans F4 (fun _ k => k.elim)
    · rcases hi with e | e
      · omega
      · simp [Value.ownBlock] at e
    · rcases hi with e | e
      · omega
      · simp [Value.ownBlock] at e
  have HG4 := Lib.hid G4
  clear V1 V3 G4 F3 F4 K3
  go_wp2_with fail
  refine HLN.out.mono ?_
  rintro e w5 ⟨rfl, rfl⟩
  go_wp2_with fail
  refine (wbytes_any HV1.out (by rw [putBits_length]; omega)).mono ?_
  rintro e w6 ⟨u1, rfl, O1, B1, F6⟩
  go_wp2_with fail
  refine (wbytes_any (HV3.out.fr F6 (fun k => k) (fun _ _ k => k)) (by rw [putBits_length]; omega)).mono ?_
  rintro e w7 ⟨u2, rfl, O2, B2, F7⟩
  obtain ⟨A1, c1, rfl, _, _, R1⟩ := (O1.fr F7 (fun _ _ k => k)).shape
  obtain ⟨A2, c2, rfl, _, _, R2⟩ := O2.shape
  have HE := Lib.hid (refBytes_any (c := c1) (d := c2) R1 R2)
  rw [show decide (pack (putBits X (n + m)) = pack (putBits X (n + m))) = true from decide_eq_true rfl] at HE
  rw [bys_length]
  have G7 := HG4.out.trans (F6.trans F7 (fun _ k => k.elim)) (fun _ k => k.elim)
  clear R1 R2 O1 O2 B1 B2 F6 F7
  go_wp2_with fail
  refine HE.out.mono ?_
  rintro e w8 ⟨rfl, F8⟩
  go_wp2
  go_ret
  exact ⟨by simp, G7.trans F8 (fun _ k => k.elim)⟩
end Go.Proofs.Ytfkcpooljkpfpaa
