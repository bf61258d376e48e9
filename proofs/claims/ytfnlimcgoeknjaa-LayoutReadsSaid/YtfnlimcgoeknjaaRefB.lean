import Derived.Test.YtfnlimcgoeknjaaRefW
namespace Go.Proofs.Ytfnlimcgoeknjaa
open Go.RowKit Go

theorem refPack_step (b : List Bool) (k : Nat) : bys ((List.range (k + 1)).map (byteOf b)) = bys ((List.range k).map (byteOf b)) ++ [.int .u8 ((byteOf b k).toNat : Int)] := by
  rw [List.range_succ, List.map_append, bys_append]; rfl

set_option maxRecDepth 20000 in
set_option maxHeartbeats 4000000 in
theorem refPack_any {A : Option Addr} {c : Nat} {b : List Bool} {w : World} (hr : Rd w A (bls b)) (hb : b.length ≤ 549755813888) :
    Calls Try.prog 26 #[.slice A b.length c] w fun e w' => ∃ v, e = .returned v ∧ Own w' 5 v (bys (pack b)) ∧ New w v ∧ Fr No w w' := by
  have HR := Lib.hid hr
  clear hr
  go_enter Try.func26, Try.ntmps26
  go_wp2
  go_loopg [3, 4] ((b.length + 7) / 8) (fun gk s i wr => ∃ (k : Nat) (v : Value), k + gk = (b.length + 7) / 8 ∧ s = v ∧ i = .int .i64 ((8 * k : Nat) : Int) ∧ Own wr 5 v (bys ((List.range k).map (byteOf b))) ∧ New w v ∧ Fr No w wr)
  case atStart => exact ⟨0, .slice none 0 0, by omega, rfl, rfl, Own.nil _ _, (fun k h => by simp [Value.ownBlock] at h), Fr.refl _ _⟩
  case round =>
    obtain ⟨k, v, hk, rfl, rfl, O, B, F⟩ := hrel
    obtain ⟨s, hs⟩ : ∃ s, 8 * k = s := ⟨_, rfl⟩
    rw [hs]
    have HS := Lib.hid hs
    have HO := Lib.hid O
    have HB := Lib.hid B
    have HF := Lib.hid F
    by_cases hlt : s < b.length
    · have hkl : Hid (k < (b.length + 7) / 8) := by show k < (b.length + 7) / 8; omega
      have HKK := Lib.hid hk
      clear hs O B F hk
      go_wp2
      go_loopg [5, 6] 8 (fun gk n i wx => ∃ (j : Nat), j + gk = 8 ∧ n = .int .i64 ((num (bitAt b) s j : Nat) : Int) ∧ i = .int .i64 ((s + j : Nat) : Int) ∧ wx = wr)
      case atStart => exact ⟨0, by omega, rfl, rfl, rfl⟩
      case round =>
        obtain ⟨j, hj, rfl, rfl, rfl⟩ := hrel
        obtain ⟨t, ht⟩ : ∃ t, s + j = t := ⟨_, rfl⟩
        rw [ht]
        have hN : num (bitAt b) s j < 256 ∨ j = 8 := by
          by_cases h8 : j = 8
          · exact .inr h8
          · exact .inl (Nat.lt_of_lt_of_le (num_lt _ _ j) (by
              have : 2 ^ j ≤ 2 ^ 8 := Nat.pow_le_pow_right (by omega) (by omega)
              exact this))
        by_cases hj8 : j < 8
        · have hsucc : Hid (num (bitAt b) s (j + 1) = 2 * num (bitAt b) s j + (bitAt b t).toNat) := by
            show num (bitAt b) s (j + 1) = 2 * num (bitAt b) s j + (bitAt b t).toNat
            rw [← ht]; rfl
          obtain ⟨n, hn⟩ : ∃ n, num (bitAt b) s j = n := ⟨_, rfl⟩
          rw [hn] at hsucc hN ⊢
          have hn2 : n < 256 := by omega
          have HTT := Lib.hid ht
          have ts : t < s + 8 := by omega
          clear hn ht hN
          by_cases htl : t < b.length
          · obtain ⟨ad, e, hc⟩ := (HR.out.no HF.out).bool htl
            subst e
            obtain ⟨x, hx⟩ : ∃ x, b.getD t false = x := ⟨_, rfl⟩
            rw [hx] at hc
            have hbx : Hid (bitAt b t = x) := hx
            clear hx
            cases x
            · go_wp2
              go_roundg (7 - j)
              case measure => omega
              case rel => exact ⟨j + 1, by omega, by rw [hsucc.out, hbx.out]; go_num, by rw [← HTT.out]; go_num, rfl⟩
            · go_wp2
              go_roundg (7 - j)
              case measure => omega
              case rel => exact ⟨j + 1, by omega, by rw [hsucc.out, hbx.out]; go_num, by rw [← HTT.out]; go_num, rfl⟩
          · have hbx : Hid (bitAt b t = false) := bitAt_out (by omega)
            go_wp2
            go_roundg (7 - j)
            case measure => omega
            case rel => exact ⟨j + 1, by omega, by rw [hsucc.out, hbx.out]; go_num, by rw [← HTT.out]; go_num, rfl⟩
        · obtain rfl : j = 8 := by omega
          have hbo : Hid (num (bitAt b) s 8 = (byteOf b k).toNat) := by
            show num (bitAt b) s 8 = (byteOf b k).toNat
            rw [byteOf_nat, HS.out]
          obtain ⟨n, hn⟩ : ∃ n, num (bitAt b) s 8 = n := ⟨_, rfl⟩
          rw [hn] at hbo ⊢
          have hn2 : n < 256 := by rw [hbo.out]; exact UInt8.toNat_lt _
          have hst := Lib.hid refPack_step
          clear hn hN
          go_wp2_with (at_builtin; go_loud (refine own_append rfl (.tmp 34) (.tmp 37) 22 5 (.int .u8 0) 1 rfl Try.underlying22 infoU8 rfl (by decide) _ (bys ((List.range k).map (byteOf b))) (.int .u8 (n : Int)) _ rfl rfl rfl rfl HO.out ?hl ?_))
          case hl => rw [bys_length]; simp; have := hkl.out; omega
          intro v3 w3 o3 f3 a3
          have f3' : Fr No w w3 := HF.out.trans f3 (fun i hi => .inr (HB.out i hi))
          have b3 : New w v3 := by
            intro k hk
            rcases a3 with e | ⟨b, e, hb⟩
            · rw [e] at hk; exact HB.out k hk
            · rw [e] at hk; cases hk; exact Nat.le_trans HF.out.size hb
          have o3' : Own w3 5 v3 (bys ((List.range (k + 1)).map (byteOf b))) := by
            rw [refPack_step, ← hbo.out]; exact o3
          have H3 := Lib.hid b3
          clear o3 f3 a3 b3
          go_wp2
          go_roundg ((b.length + 7) / 8 - (k + 1))
          case measure => have := hkl.out; have := HKK.out; omega
          case rel => exact ⟨k + 1, v3, by have := hkl.out; omega, rfl, by rw [show 8 * (k + 1) = s + 8 by rw [← HS.out]; omega]; go_num, o3', H3.out, f3'⟩
    · have hkl : k = (b.length + 7) / 8 := by omega
      have hp : Hid (pack b = (List.range k).map (byteOf b)) := by show pack b = (List.range k).map (byteOf b); rw [hkl]; rfl
      clear hs hk hkl O B F
      go_wp2
      go_ret
      exact ⟨_, rfl, by rw [hp.out]; exact HO.out, HB.out, HF.out⟩
end Go.Proofs.Ytfnlimcgoeknjaa
