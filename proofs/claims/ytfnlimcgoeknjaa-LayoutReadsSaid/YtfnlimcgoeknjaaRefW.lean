import Derived.Test.YtfnlimcgoeknjaaReadW
namespace Go.Proofs.Ytfnlimcgoeknjaa
open Go.RowKit Go

theorem infoBool : (Try.prog.info? 4).map (fun i => (i.zero, i.size, i.bytes)) = some (some (.bool false), 1, 1) := by kernel_rfl
theorem run_bit (r i : Nat) : ((r : Int) / 2 ^ i).tmod 2 = if r.testBit i = true then 1 else 0 := by
  have e : ((r : Int) / 2 ^ i) = ((r / 2 ^ i : Nat) : Int) := by simp
  rw [e, show ((r / 2 ^ i : Nat) : Int).tmod 2 = ((r / 2 ^ i % 2 : Nat) : Int) by rw [Int.tmod_eq_emod_of_nonneg (Int.natCast_nonneg _)]; rfl, Nat.testBit_eq_decide_div_mod_eq]
  rcases Nat.mod_two_eq_zero_or_one (r / 2 ^ i) with h | h <;> rw [h] <;> simp
def New (w : World) (v : Value) : Prop := ∀ k, v.ownBlock = some k → w.heap.size ≤ k

set_option maxRecDepth 20000 in
set_option maxHeartbeats 4000000 in
theorem refPut_any {A : Option Addr} {c : Nat} {b : List Bool} {w : World} (hr : Rd w A (bls b)) (hA : A = none → c = 0) (hb : b.length ≤ 549755813888) (N : Nat) (width : Int) (hwd : -9223372036854775808 ≤ width ∧ width ≤ 9223372036854775807) :
    Calls Try.prog 65 #[.slice A b.length c, .int .u64 (N : Int), .int .i64 width] w fun e w' => ∃ v, e = .returned v ∧ Own w' 4 v (bls (b ++ putBits N (clamp width))) ∧ New w v ∧ Fr No w w' := by
  have HR := Lib.hid hr
  have HA := Lib.hid hA
  obtain ⟨m, hm⟩ : ∃ m, clamp width = m := ⟨_, rfl⟩
  have hm64 : m ≤ 64 := by rw [← hm]; exact clamp_le _
  have hmi : min (max width 0) 64 = (m : Int) := by rw [← hm, clamp_int]
  rw [hm]
  clear hr hA hm
  go_enter Try.func65, Try.ntmps65
  go_upto_if 10 with (fail)
  go_cut [2] (fun s wc => (∃ W : Int, s = .int .i64 W ∧ W ≤ 64 ∧ (m : Int) = max W 0 ∧ -9223372036854775808 ≤ W) ∧ wc = w)
  case first =>
    by_cases h0 : 64 < width
    · go_wp2
      go_meet
      case rel => exact ⟨⟨64, rfl, by omega, by omega, by omega⟩, rfl⟩
    · go_wp2
      go_meet
      case rel => exact ⟨⟨width, rfl, by omega, by omega, by omega⟩, rfl⟩
  case rest =>
    obtain ⟨⟨W, rfl, hW, hWm, hW0⟩, rfl⟩ := hcut
    go_wp2_with (at_builtin; go_loud (refine own_extend rfl (.tmp 11) (.tmp 12) 59 4 (.bool false) 1 rfl Try.underlying59 infoBool rfl (by decide) (.slice none 0 0) [] (bls b) A b.length c rfl rfl ?hn ?hA ?hR (bls_one' b) (Own.nil _ _) ?hl ?_))
    case hn => rw [bls_length]
    case hA => exact HA.out
    case hR => exact HR.out
    case hl => rw [bls_length]; simp; omega
    intro v1 w1 o1 f1 a1
    have f1' : Fr No wc w1 := f1.mono (fun i hi => by simp [Value.ownBlock] at hi)
    have b1 : New wc v1 := by
      intro k hk
      rcases a1 with e | ⟨b, e, hb⟩
      · rw [e] at hk; simp [Value.ownBlock] at hk
      · rw [e] at hk; cases hk; exact hb
    have o1' : Own w1 4 v1 (bls b) := by simpa using o1
    clear o1 f1 a1
    go_wp2
    go_loopg [7, 8] m (fun gk s i wr => ∃ (k : Nat) (v2 : Value), k + gk = m ∧ s = v2 ∧ i = .int .i64 k ∧ Own wr 4 v2 (bls (b ++ (putBits N m).take k)) ∧ New wc v2 ∧ Fr No wc wr)
    case atStart => exact ⟨0, v1, by omega, rfl, rfl, by simpa using o1', b1, f1'⟩
    case round =>
      obtain ⟨k, v2, hk, rfl, rfl, O, B, F⟩ := hrel
      clear o1' b1 f1'
      by_cases hkm : k < m
      · obtain ⟨j, hj⟩ : ∃ j, m - 1 - k = j := ⟨_, rfl⟩
        have hWm' : W = (m : Int) := by omega
        have ej : (m : Int) - 1 - (k : Int) = (j : Int) := by omega
        have htk := putBits_take N m k hkm
        rw [hj] at htk
        obtain ⟨x, hx⟩ : ∃ x, N.testBit j = x := ⟨_, rfl⟩
        have e1 := run_bit N j
        rw [hx] at e1 htk
        have hlen : (b ++ (putBits N m).take k).length ≤ 549755813952 := by rw [List.length_append, List.length_take, putBits_length]; omega
        have HTK := Lib.hid htk
        have HO := Lib.hid O
        have HB := Lib.hid B
        have HF := Lib.hid F
        subst hWm'
        clear hx htk O B F hWm hmi hW hW0 hwd
        cases x
        · go_wp2_with (at_builtin; go_loud (refine own_append rfl (.tmp 19) (.tmp 28) 59 4 (.bool false) 1 rfl Try.underlying59 infoBool rfl (by decide) _ (bls (b ++ (putBits N m).take k)) (.bool false) _ rfl rfl rfl rfl HO.out ?hl ?_))
          case hl => rw [bls_length]; omega
          intro v3 w3 o3 f3 a3
          have f3' : Fr No wc w3 := HF.out.trans f3 (fun i hi => .inr (HB.out i hi))
          have b3 : New wc v3 := by
            intro k hk
            rcases a3 with e | ⟨b, e, hb⟩
            · rw [e] at hk; exact HB.out k hk
            · rw [e] at hk; cases hk; exact Nat.le_trans HF.out.size hb
          have o3' : Own w3 4 v3 (bls (b ++ (putBits N m).take (k + 1))) := by
            rw [HTK.out, ← List.append_assoc, bls_append]; exact o3
          have H3 := Lib.hid b3
          clear o3 f3 a3 b3
          go_wp2
          go_roundg (m - (k + 1))
          case measure => omega
          case rel => exact ⟨k + 1, v3, by omega, rfl, by go_num, o3', H3.out, f3'⟩
        · go_wp2_with (at_builtin; go_loud (refine own_append rfl (.tmp 19) (.tmp 28) 59 4 (.bool false) 1 rfl Try.underlying59 infoBool rfl (by decide) _ (bls (b ++ (putBits N m).take k)) (.bool true) _ rfl rfl rfl rfl HO.out ?hl ?_))
          case hl => rw [bls_length]; omega
          intro v3 w3 o3 f3 a3
          have f3' : Fr No wc w3 := HF.out.trans f3 (fun i hi => .inr (HB.out i hi))
          have b3 : New wc v3 := by
            intro k hk
            rcases a3 with e | ⟨b, e, hb⟩
            · rw [e] at hk; exact HB.out k hk
            · rw [e] at hk; cases hk; exact Nat.le_trans HF.out.size hb
          have o3' : Own w3 4 v3 (bls (b ++ (putBits N m).take (k + 1))) := by
            rw [HTK.out, ← List.append_assoc, bls_append]; exact o3
          have H3 := Lib.hid b3
          clear o3 f3 a3 b3
          go_wp2
          go_roundg (m - (k + 1))
          case measure => omega
          case rel => exact ⟨k + 1, v3, by omega, rfl, by go_num, o3', H3.out, f3'⟩
      · obtain rfl : k = m := by omega
        rw [List.take_of_length_le (by rw [putBits_length]; exact Nat.le_refl _)] at O
        go_wp2
        go_ret
        exact ⟨_, rfl, O, B, F⟩
end Go.Proofs.Ytfnlimcgoeknjaa
