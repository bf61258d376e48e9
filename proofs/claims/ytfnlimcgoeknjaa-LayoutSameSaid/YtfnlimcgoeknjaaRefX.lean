import Derived.Test.YtfnlimcgoeknjaaReadW
namespace Go.Proofs.Ytfnlimcgoeknjaa
open Go.RowKit Go

theorem infoBool : (Try.prog.info? 4).map (fun i => (i.zero, i.size, i.bytes)) = some (some (.bool false), 1, 1) := by kernel_rfl
theorem run_bit (r i : Nat) : ((r : Int) / 2 ^ i).tmod 2 = if r.testBit i = true then 1 else 0 := by
  have e : ((r : Int) / 2 ^ i) = ((r / 2 ^ i : Nat) : Int) := by simp
  rw [e, show ((r / 2 ^ i : Nat) : Int).tmod 2 = ((r / 2 ^ i % 2 : Nat) : Int) by rw [Int.tmod_eq_emod_of_nonneg (Int.natCast_nonneg _)]; rfl, Nat.testBit_eq_decide_div_mod_eq]
  rcases Nat.mod_two_eq_zero_or_one (r / 2 ^ i) with h | h <;> rw [h] <;> simp
def New (w : World) (v : Value) : Prop := ∀ k, v.ownBlock = some k → w.heap.size ≤ k

set_option maxRecDepth 20000 in
set_option maxHeartbeats 4000000 in
theorem refPut_any {A : Option Addr} {c : Nat} {b : List Bool} {w : World} (hr : Rd w A (bls b)) (hA : A = none → c = 0) (hb : b.length ≤ 549755813888) (N : Nat) (width : Int) (hwd : -9223372036854775808 ≤ width ∧ width ≤ 9223372036854775807) :
    Calls Try.prog 65 #[.slice A b.length c, .int .u64 (N : Int), .int .i64 width] w fun e w' => ∃ v, e = .returned v ∧ Own w' 4 v (bls (b ++ putBits N (clamp width))) ∧ New w v ∧ Fr No w w' := by
  have HR := Lib.hid hr
  have HA := Lib.hid hA
  obtain ⟨m, hm⟩ : ∃ m, clamp width = m := ⟨_, rfl⟩
  have hm64 : m ≤ 64 := by rw [← hm]; exact clamp_le _
  have hmi : min (max width 0) 64 = (m : Int) := by rw [← hm, clamp_int]
  rw [hm]
  clear hr hA hm
  go_enter Try.func65, Try.ntmps65
  go_upto_if 10 with (fail)
  go_cut [2] (fun s wc => (∃ W : Int, s = .int .i64 W ∧ W ≤ 64 ∧ (m : Int) = max W 0 ∧ -9223372036854775808 ≤ W) ∧ wc = w)
  case first =>
    by_cases h0 : 64 < width
    · go_wp2
      go_meet
      case rel => exact ⟨⟨64, rfl, by omega, by omega, by omega⟩, rfl⟩
    · go_wp2
      go_meet
      case rel => exact ⟨⟨width, rfl, by omega, by omega, by omega⟩, rfl⟩
  case rest =>
    obtain ⟨⟨W, rfl, hW, hWm, hW0⟩, rfl⟩ := hcut
    go_wp2_with (at_builtin; go_loud (refine own_extend rfl (.tmp 11) (.tmp 12) 59 4 (.bool false) 1 rfl Try.underlying59 infoBool rfl (by decide) (.slice none 0 0) [] (bls b) A b.length c rfl rfl ?hn ?hA ?hR (bls_one' b) (Own.nil _ _) ?hl ?_))
    case hn => rw [bls_length]
    case hA => exact HA.out
    case hR => exact HR.out
    case hl => rw [bls_length]; simp; omega
    intro v1 w1 o1 f1 a1
    have f1' : Fr No wc w1 := f1.mono (fun i hi => by simp [Value.ownBlock] at hi)
    have b1 : New wc v1 := by
      intro k hk
      rcases a1 with e | ⟨b, e, hb⟩
      · rw [e] at hk; simp [Value.ownBlock] at hk
      · rw [e] at hk; cases hk; exact hb
    have o1' : Own w1 4 v1 (bls b) := by simpa using o1
    clear o1 f1 a1
    go_wp2
    go_loopg [7, 8] m (fun gk s i wr => ∃ (k : Nat) (v2 : Value), k + gk = m ∧ s = v2 ∧ i = .int .i64 k ∧ Own wr 4 v2 (bls (b ++ (putBits N m).take k)) ∧ New wc v2 ∧ Fr No wc wr)
    case atStart => exact ⟨0, v1, by omega, rfl, rfl, by simpa using o1', b1, f1'⟩
    case round =>
      obtain ⟨k, v2, hk, rfl, rfl, O, B, F⟩ := hrel
      clear o1' b1 f1'
      by_cases hkm : k < m
      · obtain ⟨j, hj⟩ : ∃ j, m - 1 - k = j := ⟨_, rfl⟩
        have hWm' : W = (m : Int) := by omega
        have ej : (m : Int) - 1 - (k : Int) = (j : Int) := by omega
        have htk := putBits_take N m k hkm
        rw [hj] at htk
        obtain ⟨x, hx⟩ : ∃ x, N.testBit j = x := ⟨_, rfl⟩
        have e1 := run_bit N j
        rw [hx] at e1 htk
        have hlen : (b ++ (putBits N m).take k).length ≤ 549755813952 := by rw [List.length_append, List.length_take, putBits_length]; omega
        have HTK := Lib.hid htk
        have HO := Lib.hid O
        have HB := Lib.hid B
        have HF := Lib.hid F
        subst hWm'
        clear hx htk O B F hWm hmi hW hW0 hwd
        cases x
        · go_wp2_with (at_builtin; go_loud (refine own_append rfl (.tmp 19) (.tmp 28) 59 4 (.bool false) 1 rfl Try.underlying59 infoBool rfl (by decide) _ (bls (b ++ (putBits N m).take k)) (.bool false) _ rfl rfl rfl rfl HO.out ?hl ?_))
          case hl => rw [bls_length]; omega
          intro v3 w3 o3 f3 a3
          have f3' : Fr No wc w3 := HF.out.trans f3 (fun i hi => .inr (HB.out i hi))
          have b3 : New wc v3 := by
            intro k hk
            rcases a3 with e | ⟨b, e, hb⟩
            · rw [e] at hk; exact HB.out k hk
            · rw [e] at hk; cases hk; exact Nat.le_trans HF.out.size hb
          have o3' : Own w3 4 v3 (bls (b ++ (putBits N m).take (k + 1))) := by
            rw [HTK.out, ← List.append_assoc, bls_append]; exact o3
          have H3 := Lib.hid b3
          clear o3 f3 a3 b3
          go_wp2
          go_roundg (m - (k + 1))
          case measure => omega
          case rel => exact ⟨k + 1, v3, by omega, rfl, by go_num, o3', H3.out, f3'⟩
        · go_wp2_with (at_builtin; go_loud (refine own_append rfl (.tmp 19) (.tmp 28) 59 4 (.bool false) 1 rfl Try.underlying59 infoBool rfl (by decide) _ (bls (b ++ (putBits N m).take k)) (.bool true) _ rfl rfl rfl rfl HO.out ?hl ?_))
          case hl => rw [bls_length]; omega
          intro v3 w3 o3 f3 a3
          have f3' : Fr No wc w3 := HF.out.trans f3 (fun i hi => .inr (HB.out i hi))
          have b3 : New wc v3 := by
            intro k hk
            rcases a3 with e | ⟨b, e, hb⟩
            · rw [e] at hk; exact HB.out k hk
            · rw [e] at hk; cases hk; exact Nat.le_trans HF.out.size hb
          have o3' : Own w3 4 v3 (bls (b ++ (putBits N m).take (k + 1))) := by
            rw [HTK.out, ← List.append_assoc, bls_append]; exact o3
          have H3 := Lib.hid b3
          clear o3 f3 a3 b3
          go_wp2
          go_roundg (m - (k + 1))
          case measure => omega
          case rel => exact ⟨k + 1, v3, by omega, rfl, by go_num, o3', H3.out, f3'⟩
      · obtain rfl : k = m := by omega
        rw [List.take_of_length_le (by rw [putBits_length]; exact Nat.le_refl _)] at O
        go_wp2
        go_ret
        exact ⟨_, rfl, O, B, F⟩
end Go.Proofs.Ytfnlimcgoeknjaa

namespace Go.Proofs.Ytfnlimcgoeknjaa
open Go.RowKit Go

theorem refPack_step (b : List Bool) (k : Nat) : bys ((List.range (k + 1)).map (byteOf b)) = bys ((List.range k).map (byteOf b)) ++ [.int .u8 ((byteOf b k).toNat : Int)] := by
  rw [List.range_succ, List.map_append, bys_append]; rfl

set_option maxRecDepth 20000 in
set_option maxHeartbeats 4000000 in
theorem refPack_any {A : Option Addr} {c : Nat} {b : List Bool} {w : World} (hr : Rd w A (bls b)) (hb : b.length ≤ 549755813888) :
    Calls Try.prog 26 #[.slice A b.length c] w fun e w' => ∃ v, e = .returned v ∧ Own w' 5 v (bys (pack b)) ∧ New w v ∧ Fr No w w' := by
  have HR := Lib.hid hr
  clear hr
  go_enter Try.func26, Try.ntmps26
  go_wp2
  go_loopg [3, 4] ((b.length + 7) / 8) (fun gk s i wr => ∃ (k : Nat) (v : Value), k + gk = (b.length + 7) / 8 ∧ s = v ∧ i = .int .i64 ((8 * k : Nat) : Int) ∧ Own wr 5 v (bys ((List.range k).map (byteOf b))) ∧ New w v ∧ Fr No w wr)
  case atStart => exact ⟨0, .slice none 0 0, by omega, rfl, rfl, Own.nil _ _, (fun k h => by simp [Value.ownBlock] at h), Fr.refl _ _⟩
  case round =>
    obtain ⟨k, v, hk, rfl, rfl, O, B, F⟩ := hrel
    obtain ⟨s, hs⟩ : ∃ s, 8 * k = s := ⟨_, rfl⟩
    rw [hs]
    have HS := Lib.hid hs
    have HO := Lib.hid O
    have HB := Lib.hid B
    have HF := Lib.hid F
    by_cases hlt : s < b.length
    · have hkl : Hid (k < (b.length + 7) / 8) := by show k < (b.length + 7) / 8; omega
      have HKK := Lib.hid hk
      clear hs O B F hk
      go_wp2
      go_loopg [5, 6] 8 (fun gk n i wx => ∃ (j : Nat), j + gk = 8 ∧ n = .int .i64 ((num (bitAt b) s j : Nat) : Int) ∧ i = .int .i64 ((s + j : Nat) : Int) ∧ wx = wr)
      case atStart => exact ⟨0, by omega, rfl, rfl, rfl⟩
      case round =>
        obtain ⟨j, hj, rfl, rfl, rfl⟩ := hrel
        obtain ⟨t, ht⟩ : ∃ t, s + j = t := ⟨_, rfl⟩
        rw [ht]
        have hN : num (bitAt b) s j < 256 ∨ j = 8 := by
          by_cases h8 : j = 8
          · exact .inr h8
          · exact .inl (Nat.lt_of_lt_of_le (num_lt _ _ j) (by
              have : 2 ^ j ≤ 2 ^ 8 := Nat.pow_le_pow_right (by omega) (by omega)
              exact this))
        by_cases hj8 : j < 8
        · have hsucc : Hid (num (bitAt b) s (j + 1) = 2 * num (bitAt b) s j + (bitAt b t).toNat) := by
            show num (bitAt b) s (j + 1) = 2 * num (bitAt b) s j + (bitAt b t).toNat
            rw [← ht]; rfl
          obtain ⟨n, hn⟩ : ∃ n, num (bitAt b) s j = n := ⟨_, rfl⟩
          rw [hn] at hsucc hN ⊢
          have hn2 : n < 256 := by omega
          have HTT := Lib.hid ht
          have ts : t < s + 8 := by omega
          clear hn ht hN
          by_cases htl : t < b.length
          · obtain ⟨ad, e, hc⟩ := (HR.out.no HF.out).bool htl
            subst e
            obtain ⟨x, hx⟩ : ∃ x, b.getD t false = x := ⟨_, rfl⟩
            rw [hx] at hc
            have hbx : Hid (bitAt b t = x) := hx
            clear hx
            cases x
            · go_wp2
              go_roundg (7 - j)
              case measure => omega
              case rel => exact ⟨j + 1, by omega, by rw [hsucc.out, hbx.out]; go_num, by rw [← HTT.out]; go_num, rfl⟩
            · go_wp2
              go_roundg (7 - j)
              case measure => omega
              case rel => exact ⟨j + 1, by omega, by rw [hsucc.out, hbx.out]; go_num, by rw [← HTT.out]; go_num, rfl⟩
          · have hbx : Hid (bitAt b t = false) := bitAt_out (by omega)
            go_wp2
            go_roundg (7 - j)
            case measure => omega
            case rel => exact ⟨j + 1, by omega, by rw [hsucc.out, hbx.out]; go_num, by rw [← HTT.out]; go_num, rfl⟩
        · obtain rfl : j = 8 := by omega
          have hbo : Hid (num (bitAt b) s 8 = (byteOf b k).toNat) := by
            show num (bitAt b) s 8 = (byteOf b k).toNat
            rw [byteOf_nat, HS.out]
          obtain ⟨n, hn⟩ : ∃ n, num (bitAt b) s 8 = n := ⟨_, rfl⟩
          rw [hn] at hbo ⊢
          have hn2 : n < 256 := by rw [hbo.out]; exact UInt8.toNat_lt _
          have hst := Lib.hid refPack_step
          clear hn hN
          go_wp2_with (at_builtin; go_loud (refine own_append rfl (.tmp 34) (.tmp 37) 22 5 (.int .u8 0) 1 rfl Try.underlying22 infoU8 rfl (by decide) _ (bys ((List.range k).map (byteOf b))) (.int .u8 (n : Int)) _ rfl rfl rfl rfl HO.out ?hl ?_))
          case hl => rw [bys_length]; simp; have := hkl.out; omega
          intro v3 w3 o3 f3 a3
          have f3' : Fr No w w3 := HF.out.trans f3 (fun i hi => .inr (HB.out i hi))
          have b3 : New w v3 := by
            intro k hk
            rcases a3 with e | ⟨b, e, hb⟩
            · rw [e] at hk; exact HB.out k hk
            · rw [e] at hk; cases hk; exact Nat.le_trans HF.out.size hb
          have o3' : Own w3 5 v3 (bys ((List.range (k + 1)).map (byteOf b))) := by
            rw [refPack_step, ← hbo.out]; exact o3
          have H3 := Lib.hid b3
          clear o3 f3 a3 b3
          go_wp2
          go_roundg ((b.length + 7) / 8 - (k + 1))
          case measure => have := hkl.out; have := HKK.out; omega
          case rel => exact ⟨k + 1, v3, by have := hkl.out; omega, rfl, by rw [show 8 * (k + 1) = s + 8 by rw [← HS.out]; omega]; go_num, o3', H3.out, f3'⟩
    · have hkl : k = (b.length + 7) / 8 := by omega
      have hp : Hid (pack b = (List.range k).map (byteOf b)) := by show pack b = (List.range k).map (byteOf b); rw [hkl]; rfl
      clear hs hk hkl O B F
      go_wp2
      go_ret
      exact ⟨_, rfl, by rw [hp.out]; exact HO.out, HB.out, HF.out⟩
end Go.Proofs.Ytfnlimcgoeknjaa

namespace Go.Proofs.Ytfnlimcgoeknjaa
open Go.RowKit Go

theorem ofBytes_take (l : List UInt8) (k : Nat) (h : k < l.length) : ofBytes (l.take (k + 1)) = ofBytes (l.take k) ++ ofBytes [l.getD k 0] := by
  rw [← ofBytes_append, List.take_add_one, List.getD_eq_getElem?_getD, List.getElem?_eq_getElem h]
  rfl
theorem ofByte_take (y : UInt8) (j : Nat) (h : j < 8) : (ofBytes [y]).take (j + 1) = (ofBytes [y]).take j ++ [y.toNat.testBit (7 - j)] := by
  rw [List.take_add_one]
  have e0 : j / 8 = 0 := by omega
  have e1 : j % 8 = j := by omega
  simp [ofBytes, h, e0, e1]

set_option maxRecDepth 20000 in
set_option maxHeartbeats 4000000 in
theorem refOf_any {A : Option Addr} {c : Nat} {l : List UInt8} {w : World} (hr : Rd w A (bys l)) (hb : l.length ≤ 68719476736) :
    Calls Try.prog 61 #[.slice A l.length c] w fun e w' => ∃ v, e = .returned v ∧ Own w' 4 v (bls (ofBytes l)) ∧ New w v ∧ Fr No w w' := by
  have HR := Lib.hid hr
  clear hr
  go_enter Try.func61, Try.ntmps61
  go_wp2
  go_loopg [3, 4] l.length (fun gk s i wr => ∃ (k : Nat) (v : Value), k + gk = l.length ∧ s = v ∧ i = .int .i64 (k : Int) ∧ Own wr 4 v (bls (ofBytes (l.take k))) ∧ New w v ∧ Fr No w wr)
  case atStart => exact ⟨0, .slice none 0 0, by omega, rfl, rfl, Own.nil _ _, (fun k h => by simp [Value.ownBlock] at h), Fr.refl _ _⟩
  case round =>
    obtain ⟨k, v, hk, rfl, rfl, O, B, F⟩ := hrel
    by_cases hlt : k < l.length
    · obtain ⟨y, hy⟩ : ∃ y, l.getD k 0 = y := ⟨_, rfl⟩
      have htk : Hid (ofBytes (l.take (k + 1)) = ofBytes (l.take k) ++ ofBytes [y]) := by
        show ofBytes (l.take (k + 1)) = ofBytes (l.take k) ++ ofBytes [y]
        rw [← hy]; exact ofBytes_take l k hlt
      have hln : Hid ((ofBytes (l.take k)).length ≤ 549755813888) := by
        show (ofBytes (l.take k)).length ≤ 549755813888
        rw [ofBytes_length, List.length_take]; omega
      have HY := Lib.hid hy
      have O0 := Lib.hid O
      have B0 := Lib.hid B
      have F0 := Lib.hid F
      clear hy O B F
      go_wp2
      go_loopg [3, 5] 8 (fun gk s i wx => ∃ (j : Nat) (v : Value), j + gk = 8 ∧ s = v ∧ i = .int .i64 ((gk : Int) - 1) ∧ Own wx 4 v (bls (ofBytes (l.take k) ++ (ofBytes [y]).take j)) ∧ New w v ∧ Fr No w wx)
      case atStart => exact ⟨0, _, by omega, rfl, rfl, by simpa using O0.out, B0.out, F0.out⟩
      case round =>
        obtain ⟨j, v2, hj, rfl, rfl, O, B, F⟩ := hrel
        by_cases h0 : 0 < gk
        · obtain ⟨t, rfl⟩ : ∃ t, gk = t + 1 := ⟨gk - 1, by omega⟩
          obtain ⟨ad, y', e, hc, hy'⟩ := (HR.out.no F).byte' hlt
          have hyy : y' = y := by rw [← hy'.out, HY.out]
          subst hyy
          subst e
          have hst := ofByte_take y' j (by omega)
          rw [show 7 - j = t by omega] at hst
          have e1 := run_bit y'.toNat t
          obtain ⟨x, hx⟩ : ∃ x, y'.toNat.testBit t = x := ⟨_, rfl⟩
          rw [hx] at hst e1
          have HST := Lib.hid hst
          have HO := Lib.hid O
          have HB := Lib.hid B
          have HF := Lib.hid F
          clear hx hst O B F
          cases x
          · go_wp2_with (at_builtin; go_loud (refine own_append rfl (.tmp 16) (.tmp 25) 59 4 (.bool false) 1 rfl Try.underlying59 infoBool rfl (by decide) _ (bls (ofBytes (l.take k) ++ (ofBytes [y']).take j)) (.bool false) _ rfl rfl rfl rfl HO.out ?hl ?_))
            case hl => rw [bls_length, List.length_append, List.length_take]; have := hln.out; omega
            intro v3 w3 o3 f3 a3
            have f3' : Fr No w w3 := HF.out.trans f3 (fun i hi => .inr (HB.out i hi))
            have b3 : New w v3 := by
              intro k hk
              rcases a3 with e | ⟨b, e, hb⟩
              · rw [e] at hk; exact HB.out k hk
              · rw [e] at hk; cases hk; exact Nat.le_trans HF.out.size hb
            have o3' : Own w3 4 v3 (bls (ofBytes (l.take k) ++ (ofBytes [y']).take (j + 1))) := by
              rw [HST.out, ← List.append_assoc, bls_append]; exact o3
            have H3 := Lib.hid b3
            clear o3 f3 a3 b3
            go_wp2
            go_roundg t
            case measure => omega
            case rel => exact ⟨j + 1, v3, by omega, rfl, by go_num, o3', H3.out, f3'⟩
          · go_wp2_with (at_builtin; go_loud (refine own_append rfl (.tmp 16) (.tmp 25) 59 4 (.bool false) 1 rfl Try.underlying59 infoBool rfl (by decide) _ (bls (ofBytes (l.take k) ++ (ofBytes [y']).take j)) (.bool true) _ rfl rfl rfl rfl HO.out ?hl ?_))
            case hl => rw [bls_length, List.length_append, List.length_take]; have := hln.out; omega
            intro v3 w3 o3 f3 a3
            have f3' : Fr No w w3 := HF.out.trans f3 (fun i hi => .inr (HB.out i hi))
            have b3 : New w v3 := by
              intro k hk
              rcases a3 with e | ⟨b, e, hb⟩
              · rw [e] at hk; exact HB.out k hk
              · rw [e] at hk; cases hk; exact Nat.le_trans HF.out.size hb
            have o3' : Own w3 4 v3 (bls (ofBytes (l.take k) ++ (ofBytes [y']).take (j + 1))) := by
              rw [HST.out, ← List.append_assoc, bls_append]; exact o3
            have H3 := Lib.hid b3
            clear o3 f3 a3 b3
            go_wp2
            go_roundg t
            case measure => omega
            case rel => exact ⟨j + 1, v3, by omega, rfl, by go_num, o3', H3.out, f3'⟩
        · obtain rfl : gk = 0 := by omega
          obtain rfl : j = 8 := by omega
          rw [show (ofBytes [y]).take 8 = ofBytes [y] from List.take_of_length_le (by rw [ofBytes_length]; simp)] at O
          rw [← htk.out] at O
          go_wp2
          go_roundg (l.length - (k + 1))
          case measure => omega
          case rel => exact ⟨k + 1, _, by omega, rfl, by go_num, O, B, F⟩
    · obtain rfl : k = l.length := by omega
      rw [List.take_length] at O
      go_wp2
      go_ret
      exact ⟨_, rfl, O, B, F⟩
end Go.Proofs.Ytfnlimcgoeknjaa

namespace Go.Proofs.Ytfnlimcgoeknjaa
open Go.RowKit Go

/-- The document's reader at block g: the bits that are left. -/
structure InR (w : World) (g : Nat) (A : Option Addr) (c : Nat) (b : List Bool) (fail : Bool) : Prop where
  blk : w.heap[g]? = some (.cells #[.slice A b.length c, .bool fail] 104 (0, 0))
  rd : Rd w A (bls b)
  cap : b.length ≤ c
  nil : A = none → c = 0
  ne : ∀ ad, A = some ad → ad.block ≠ g
  small : c ≤ 9223372036854775807
theorem InR.fr {S : Nat → Prop} {w w1 : World} {g : Nat} {A : Option Addr} {c : Nat} {b : List Bool} {fail : Bool} (h : InR w g A c b fail) (hf : Fr S w w1) (hg : ¬ S g) (hA : ∀ ad, A = some ad → ¬ S ad.block) : InR w1 g A c b fail :=
  ⟨hf.heap h.blk hg, h.rd.fr hf hA, h.cap, h.nil, h.ne, h.small⟩
def rover (b : List Bool) (fail : Bool) (m : Nat) : Bool := fail || decide (b.length < m)
def rgot (b : List Bool) (fail : Bool) (m : Nat) : Nat := if rover b fail m = true then 0 else num (bitAt b) 0 m
def rnext (b : List Bool) (fail : Bool) (m : Nat) : List Bool := if rover b fail m = true then [] else b.drop m

set_option maxRecDepth 20000 in
set_option maxHeartbeats 4000000 in
theorem inGet_any {w : World} {g : Nat} {A : Option Addr} {c : Nat} {b : List Bool} {fail : Bool} (h : InR w g A c b fail) (width : Int) (hwd : -9223372036854775808 ≤ width ∧ width ≤ 9223372036854775807) :
    Calls Try.prog 62 #[.pointer (some ⟨g, 0, none⟩), .int .i64 width] w fun e w' => e = .returned (.int .u64 (rgot b fail (clamp width))) ∧ (∃ A' c', InR w' g A' c' (rnext b fail (clamp width)) (rover b fail (clamp width)) ∧ ∀ a, A' = some a → ∃ ad, A = some ad ∧ a.block = ad.block) ∧ Fr (RS g) w w' := by
  have H := Lib.hid h
  obtain ⟨m, hm⟩ : ∃ m, clamp width = m := ⟨_, rfl⟩
  have hm64 : m ≤ 64 := by rw [← hm]; exact clamp_le _
  have hmi : min (max width 0) 64 = (m : Int) := by rw [← hm, clamp_int]
  rw [hm]
  have c0 : w.cell? ⟨g, 0, none⟩ = some (.slice A b.length c) := by rw [blk_cell h.blk]; rfl
  have c1 : w.cell? ⟨g, 1, none⟩ = some (.bool fail) := by rw [blk_cell h.blk]; rfl
  have f0 : w.frozen? ⟨g, 0, none⟩ = false := blk_free h.blk 0
  have f1 : w.frozen? ⟨g, 1, none⟩ = false := blk_free h.blk 1
  clear h hm
  go_enter Try.func62, Try.ntmps62
  go_upto_if 8 with (fail)
  go_cut [1] (fun s wc => s = .int .i64 (min width 64) ∧ wc = w)
  case first =>
    by_cases h0 : 64 < width
    · have e : Hid (min width 64 = 64) := by show min width 64 = 64; omega
      go_wp2
      go_meet
      case rel => exact ⟨by rw [e.out], rfl⟩
    · have e : Hid (min width 64 = width) := by show min width 64 = width; omega
      go_wp2
      go_meet
      case rel => exact ⟨by rw [e.out], rfl⟩
  case rest =>
    obtain ⟨rfl, rfl⟩ := hcut
    go_upto_if 10 with (fail)
    go_cut [1] (fun s wx => s = .int .i64 (m : Int) ∧ wx = wc)
    case first =>
      by_cases h0 : min width 64 < 0
      · have e : Hid (m = 0) := by show m = 0; omega
        go_wp2
        go_meet
        case rel => exact ⟨by rw [e.out]; rfl, rfl⟩
      · have e : Hid (min width 64 = (m : Int)) := by show min width 64 = (m : Int); omega
        go_wp2
        go_meet
        case rel => exact ⟨by rw [e.out], rfl⟩
    case rest =>
      obtain ⟨rfl, rfl⟩ := hcut
      clear hmi hwd
      by_cases ho : fail = true ∨ b.length < m
      · have hov : rover b fail m = true := by unfold rover; simpa using ho
        have HG : Hid (rgot b fail m = 0) := by show rgot b fail m = 0; unfold rgot; rw [if_pos hov]
        have HN : Hid (rnext b fail m = []) := by show rnext b fail m = []; unfold rnext; rw [if_pos hov]
        have HV := Lib.hid hov
        clear hov
        have fin : InR ((wc.setCell ⟨g, 0, none⟩ (.slice none 0 0)).setCell ⟨g, 1, none⟩ (.bool true)) g none 0 [] true := by
          refine ⟨?_, Rd.nil _ _, by simp, fun _ => rfl, by simp, by omega⟩
          rw [blk_set (blk_set H.out.blk 0 _) 1 _]; simp
        have FIN := Lib.hid fin
        have fs : Fr (RS g) wc ((wc.setCell ⟨g, 0, none⟩ (.slice none 0 0)).setCell ⟨g, 1, none⟩ (.bool true)) := ((Fr.refl (RS g) wc).setCell (p := ⟨g, 0, none⟩) (.inl rfl) _).setCell (p := ⟨g, 1, none⟩) (.inl rfl) _
        have FS := Lib.hid fs
        clear fin fs
        cases fail
        · have ho' : b.length < m := by simpa using ho
          clear ho
          go_wp2
          go_ret
          exact ⟨by rw [HG.out]; rfl, ⟨none, 0, by rw [HN.out, HV.out]; exact FIN.out, fun _ e => by cases e⟩, FS.out⟩
        · clear ho
          go_wp2
          go_ret
          exact ⟨by rw [HG.out]; rfl, ⟨none, 0, by rw [HN.out, HV.out]; exact FIN.out, fun _ e => by cases e⟩, FS.out⟩
      · have hff : fail = false := by cases fail <;> simp_all
        subst hff
        have hmb : m ≤ b.length := by simp at ho; exact ho
        have hov : rover b false m = false := by unfold rover; simp; exact hmb
        have HG : Hid (rgot b false m = num (bitAt b) 0 m) := by show rgot b false m = num (bitAt b) 0 m; unfold rgot; rw [if_neg (by rw [hov]; decide)]
        have HN : Hid (rnext b false m = b.drop m) := by show rnext b false m = b.drop m; unfold rnext; rw [if_neg (by rw [hov]; decide)]
        have HV := Lib.hid hov
        have hsm : c ≤ 9223372036854775807 := H.out.small
        have hbc : b.length ≤ c := H.out.cap
        clear hov ho
        go_wp2
        go_loopg [5, 6] m (fun gk n i wr => ∃ (k : Nat), k + gk = m ∧ n = .int .u64 ((num (bitAt b) 0 k : Nat) : Int) ∧ i = .int .i64 (k : Int) ∧ wr = wc)
        case atStart => exact ⟨0, by omega, rfl, rfl, rfl⟩
        case round =>
          obtain ⟨k, hk, rfl, rfl, rfl⟩ := hrel
          by_cases hkm : k < m
          · have hsucc : Hid (num (bitAt b) 0 (k + 1) = 2 * num (bitAt b) 0 k + (bitAt b k).toNat) := by
              show num (bitAt b) 0 (k + 1) = 2 * num (bitAt b) 0 k + (bitAt b k).toNat
              simp only [num, Nat.zero_add]
            have hn63 : num (bitAt b) 0 k < 9223372036854775808 := Nat.lt_of_lt_of_le (num_lt _ _ k) (by
              have : 2 ^ k ≤ 2 ^ 63 := Nat.pow_le_pow_right (by omega) (by omega)
              exact this)
            obtain ⟨n, hn⟩ : ∃ n, num (bitAt b) 0 k = n := ⟨_, rfl⟩
            rw [hn] at hsucc hn63 ⊢
            clear hn
            obtain ⟨ad, e, hc⟩ := H.out.rd.bool (show k < b.length by omega)
            subst e
            obtain ⟨x, hx⟩ : ∃ x, b.getD k false = x := ⟨_, rfl⟩
            rw [hx] at hc
            have hbx : Hid (bitAt b k = x) := hx
            clear hx
            cases x
            · go_wp2
              go_roundg (m - (k + 1))
              case measure => omega
              case rel => exact ⟨k + 1, by omega, by rw [hsucc.out, hbx.out]; go_num, by go_num, rfl⟩
            · go_wp2
              go_roundg (m - (k + 1))
              case measure => omega
              case rel => exact ⟨k + 1, by omega, by rw [hsucc.out, hbx.out]; go_num, by go_num, rfl⟩
          · obtain rfl : k = m := by omega
            obtain ⟨n, hn⟩ : ∃ n, num (bitAt b) 0 k = n := ⟨_, rfl⟩
            rw [hn] at HG ⊢
            clear hn
            cases A with
            | none =>
              have hc0 : c = 0 := H.out.nil rfl
              subst hc0
              have hb0 : b = [] := List.eq_nil_of_length_eq_zero (by omega)
              subst hb0
              obtain rfl : k = 0 := by simp at hmb; omega
              go_wp2
              go_ret
              refine ⟨by rw [HG.out]; rfl, ⟨none, 0, ?_, fun _ e => by cases e⟩, ?_⟩
              · rw [HN.out, HV.out]
                refine ⟨?_, Rd.nil _ _, by simp, fun _ => rfl, by simp, by omega⟩
                rw [blk_set H.out.blk]; simp
              · exact (Fr.refl (RS g) wr).setCell (p := ⟨g, 0, none⟩) (.inl rfl) _
            | some ad =>
              have hds : (b.drop k).length = b.length - k := by simp
              have rdd : ∀ w1 : World, Rd w1 (some ad) (bls b) → Rd w1 (some (ad.add k)) (bls (b.drop k)) := by
                intro w1 h
                refine ⟨by rw [bls_length]; have := h.1; rw [bls_length] at this; omega, fun j hj => ⟨_, rfl, ?_⟩⟩
                rw [bls_length, hds] at hj
                obtain ⟨ad', e, hc⟩ := h.2 (k + j) (by rw [bls_length]; omega)
                cases e
                rw [Addr.add_add, hc]
                simp [bls, List.getD_eq_getElem?_getD]
              have RDD := Lib.hid rdd
              have hle2 : b.length - k ≤ c - k := by omega
              clear rdd
              by_cases hkc : k < c
              · have fs : Fr (RS g) wr (wr.setCell ⟨g, 0, none⟩ (.slice (some (ad.add k)) (b.length - k) (c - k))) := (Fr.refl (RS g) wr).setCell (p := ⟨g, 0, none⟩) (.inl rfl) _
                have fin : InR (wr.setCell ⟨g, 0, none⟩ (.slice (some (ad.add k)) (b.length - k) (c - k))) g (some (ad.add k)) (c - k) (b.drop k) false := by
                  refine ⟨?_, ?_, by rw [hds]; exact hle2, (fun h => by cases h), ?_, by omega⟩
                  · rw [blk_set H.out.blk, hds]; simp
                  · exact (RDD.out _ H.out.rd).fr fs (fun a e => by cases e; rw [Addr.add_block]; exact H.out.ne ad rfl)
                  · intro a e
                    cases e
                    rw [Addr.add_block]; exact H.out.ne ad rfl
                have FIN := Lib.hid fin
                have FS := Lib.hid fs
                clear fin fs
                go_wp2
                go_ret
                exact ⟨by rw [HG.out]; rfl, ⟨_, _, by rw [HN.out, HV.out]; exact FIN.out, fun a e => ⟨ad, rfl, by cases e; exact Addr.add_block ad k⟩⟩, FS.out⟩
              · obtain rfl : k = c := by omega
                have hbk : b.length = k := by omega
                go_wp2
                go_ret
                have fs : Fr (RS g) wr (wr.setCell ⟨g, 0, none⟩ (.slice (some ad) 0 0)) := (Fr.refl (RS g) wr).setCell (p := ⟨g, 0, none⟩) (.inl rfl) _
                refine ⟨by rw [HG.out]; rfl, ⟨some ad, 0, ?_, fun a e => ⟨a, e, rfl⟩⟩, fs⟩
                rw [HN.out, HV.out, List.drop_of_length_le (by omega)]
                refine ⟨?_, Rd.nil _ _, by simp, (fun h => by cases h), fun a e => by cases e; exact H.out.ne ad rfl, by omega⟩
                rw [blk_set H.out.blk]; simp
end Go.Proofs.Ytfnlimcgoeknjaa

namespace Go.Proofs.Ytfnlimcgoeknjaa
open Go.RowKit Go

def rends (b : List Bool) (fail : Bool) : Bool := !fail && decide (b.length ≤ 7) && decide (num (bitAt b) 0 b.length = 0)
theorem num_zero {f : Nat → Bool} {s : Nat} : ∀ m, num f s m = 0 ↔ ∀ j, j < m → f (s + j) = false
  | 0 => by simp [num]
  | m + 1 => by
    simp only [num]
    constructor
    · intro h j hj
      have h1 : num f s m = 0 := by omega
      by_cases e : j = m
      · subst e
        cases hf : f (s + j)
        · rfl
        · rw [hf] at h; simp at h
      · exact (num_zero m).1 h1 j (by omega)
    · intro h
      rw [(num_zero m).2 (fun j hj => h j (by omega)), h m (by omega)]; rfl

end Go.Proofs.Ytfnlimcgoeknjaa
