import Derived.Test.YtfnlimcgoeknjaaRefB
namespace Go.Proofs.Ytfnlimcgoeknjaa
open Go.RowKit Go

theorem ofBytes_take (l : List UInt8) (k : Nat) (h : k < l.length) : ofBytes (l.take (k + 1)) = ofBytes (l.take k) ++ ofBytes [l.getD k 0] := by
  rw [← ofBytes_append, List.take_add_one, List.getD_eq_getElem?_getD, List.getElem?_eq_getElem h]
  rfl
theorem ofByte_take (y : UInt8) (j : Nat) (h : j < 8) : (ofBytes [y]).take (j + 1) = (ofBytes [y]).take j ++ [y.toNat.testBit (7 - j)] := by
  rw [List.take_add_one]
  have e0 : j / 8 = 0 := by omega
  have e1 : j % 8 = j := by omega
  simp [ofBytes, h, e0, e1]

set_option maxRecDepth 20000 in
set_option maxHeartbeats 4000000 in
theorem refOf_any {A : Option Addr} {c : Nat} {l : List UInt8} {w : World} (hr : Rd w A (bys l)) (hb : l.length ≤ 68719476736) :
    Calls Try.prog 61 #[.slice A l.length c] w fun e w' => ∃ v, e = .returned v ∧ Own w' 4 v (bls (ofBytes l)) ∧ New w v ∧ Fr No w w' := by
  have HR := Lib.hid hr
  clear hr
  go_enter Try.func61, Try.ntmps61
  go_wp2
  go_loopg [3, 4] l.length (fun gk s i wr => ∃ (k : Nat) (v : Value), k + gk = l.length ∧ s = v ∧ i = .int .i64 (k : Int) ∧ Own wr 4 v (bls (ofBytes (l.take k))) ∧ New w v ∧ Fr No w wr)
  case atStart => exact ⟨0, .slice none 0 0, by omega, rfl, rfl, Own.nil _ _, (fun k h => by simp [Value.ownBlock] at h), Fr.refl _ _⟩
  case round =>
    obtain ⟨k, v, hk, rfl, rfl, O, B, F⟩ := hrel
    by_cases hlt : k < l.length
    · obtain ⟨y, hy⟩ : ∃ y, l.getD k 0 = y := ⟨_, rfl⟩
      have htk : Hid (ofBytes (l.take (k + 1)) = ofBytes (l.take k) ++ ofBytes [y]) := by
        show ofBytes (l.take (k + 1)) = ofBytes (l.take k) ++ ofBytes [y]
        rw [← hy]; exact ofBytes_take l k hlt
      have hln : Hid ((ofBytes (l.take k)).length ≤ 549755813888) := by
        show (ofBytes (l.take k)).length ≤ 549755813888
        rw [ofBytes_length, List.length_take]; omega
      have HY := Lib.hid hy
      have O0 := Lib.hid O
      have B0 := Lib.hid B
      have F0 := Lib.hid F
      clear hy O B F
      go_wp2
      go_loopg [3, 5] 8 (fun gk s i wx => ∃ (j : Nat) (v : Value), j + gk = 8 ∧ s = v ∧ i = .int .i64 ((gk : Int) - 1) ∧ Own wx 4 v (bls (ofBytes (l.take k) ++ (ofBytes [y]).take j)) ∧ New w v ∧ Fr No w wx)
      case atStart => exact ⟨0, _, by omega, rfl, rfl, by simpa using O0.out, B0.out, F0.out⟩
      case round =>
        obtain ⟨j, v2, hj, rfl, rfl, O, B, F⟩ := hrel
        by_cases h0 : 0 < gk
        · obtain ⟨t, rfl⟩ : ∃ t, gk = t + 1 := ⟨gk - 1, by omega⟩
          obtain ⟨ad, y', e, hc, hy'⟩ := (HR.out.no F).byte' hlt
          have hyy : y' = y := by rw [← hy'.out, HY.out]
          subst hyy
          subst e
          have hst := ofByte_take y' j (by omega)
          rw [show 7 - j = t by omega] at hst
          have e1 := run_bit y'.toNat t
          obtain ⟨x, hx⟩ : ∃ x, y'.toNat.testBit t = x := ⟨_, rfl⟩
          rw [hx] at hst e1
          have HST := Lib.hid hst
          have HO := Lib.hid O
          have HB := Lib.hid B
          have HF := Lib.hid F
          clear hx hst O B F
          cases x
          · go_wp2_with (at_builtin; go_loud (refine own_append rfl (.tmp 16) (.tmp 25) 59 4 (.bool false) 1 rfl Try.underlying59 infoBool rfl (by decide) _ (bls (ofBytes (l.take k) ++ (ofBytes [y']).take j)) (.bool false) _ rfl rfl rfl rfl HO.out ?hl ?_))
            case hl => rw [bls_length, List.length_append, List.length_take]; have := hln.out; omega
            intro v3 w3 o3 f3 a3
            have f3' : Fr No w w3 := HF.out.trans f3 (fun i hi => .inr (HB.out i hi))
            have b3 : New w v3 := by
              intro k hk
              rcases a3 with e | ⟨b, e, hb⟩
              · rw [e] at hk; exact HB.out k hk
              · rw [e] at hk; cases hk; exact Nat.le_trans HF.out.size hb
            have o3' : Own w3 4 v3 (bls (ofBytes (l.take k) ++ (ofBytes [y']).take (j + 1))) := by
              rw [HST.out, ← List.append_assoc, bls_append]; exact o3
            have H3 := Lib.hid b3
            clear o3 f3 a3 b3
            go_wp2
            go_roundg t
            case measure => omega
            case rel => exact ⟨j + 1, v3, by omega, rfl, by go_num, o3', H3.out, f3'⟩
          · go_wp2_with (at_builtin; go_loud (refine own_append rfl (.tmp 16) (.tmp 25) 59 4 (.bool false) 1 rfl Try.underlying59 infoBool rfl (by decide) _ (bls (ofBytes (l.take k) ++ (ofBytes [y']).take j)) (.bool true) _ rfl rfl rfl rfl HO.out ?hl ?_))
            case hl => rw [bls_length, List.length_append, List.length_take]; have := hln.out; omega
            intro v3 w3 o3 f3 a3
            have f3' : Fr No w w3 := HF.out.trans f3 (fun i hi => .inr (HB.out i hi))
            have b3 : New w v3 := by
              intro k hk
              rcases a3 with e | ⟨b, e, hb⟩
              · rw [e] at hk; exact HB.out k hk
              · rw [e] at hk; cases hk; exact Nat.le_trans HF.out.size hb
            have o3' : Own w3 4 v3 (bls (ofBytes (l.take k) ++ (ofBytes [y']).take (j + 1))) := by
              rw [HST.out, ← List.append_assoc, bls_append]; exact o3
            have H3 := Lib.hid b3
            clear o3 f3 a3 b3
            go_wp2
            go_roundg t
            case measure => omega
            case rel => exact ⟨j + 1, v3, by omega, rfl, by go_num, o3', H3.out, f3'⟩
        · obtain rfl : gk = 0 := by omega
          obtain rfl : j = 8 := by omega
          rw [show (ofBytes [y]).take 8 = ofBytes [y] from List.take_of_length_le (by rw [ofBytes_length]; simp)] at O
          rw [← htk.out] at O
          go_wp2
          go_roundg (l.length - (k + 1))
          case measure => omega
          case rel => exact ⟨k + 1, _, by omega, rfl, by go_num, O, B, F⟩
    · obtain rfl : k = l.length := by omega
      rw [List.take_length] at O
      go_wp2
      go_ret
      exact ⟨_, rfl, O, B, F⟩
end Go.Proofs.Ytfnlimcgoeknjaa
