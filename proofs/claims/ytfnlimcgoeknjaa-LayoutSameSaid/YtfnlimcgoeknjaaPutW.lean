import Derived.Test.YtfnlimcgoeknjaaBitsW
namespace Go.Proofs.Ytfnlimcgoeknjaa
open Go.RowKit Go

/-- What a writer's call leaves: the value of its bytes is the old one's block, or a new one. -/
def Kin (w : World) (v v' : Value) : Prop := v'.ownBlock = v.ownBlock ∨ ∃ k, v'.ownBlock = some k ∧ w.heap.size ≤ k
theorem Kin.refl (w : World) (v : Value) : Kin w v v := .inl rfl
theorem Kin.trans {w w1 : World} {v v1 v2 : Value} (h : Kin w v v1) (k : Kin w1 v1 v2) (hs : w.heap.size ≤ w1.heap.size) : Kin w v v2 := by
  rcases k with e | ⟨j, e, hj⟩
  · rcases h with e1 | ⟨i, e1, hi⟩
    · exact .inl (e.trans e1)
    · exact .inr ⟨i, e.trans e1, hi⟩
  · exact .inr ⟨j, e, Nat.le_trans hs hj⟩
theorem ws_trans {w w1 w2 : World} {g : Nat} {v v1 : Value} (h : Fr (WS g v) w w1) (hk : Kin w v v1) (k : Fr (WS g v1) w1 w2) : Fr (WS g v) w w2 :=
  h.trans k (fun i hi => by
    rcases hi with e | e
    · exact .inl (.inl e)
    · rcases hk with e1 | ⟨j, e1, hj⟩
      · exact .inl (.inr (e1 ▸ e))
      · rw [e1] at e; cases e; exact .inr hj)

def clamp (n : Int) : Nat := (min (max n 0) 64).toNat
theorem clamp_int (n : Int) : ((clamp n : Nat) : Int) = min (max n 0) 64 := by unfold clamp; omega
theorem clamp_le (n : Int) : clamp n ≤ 64 := by unfold clamp; omega
theorem u64_bit (N j : Nat) (hN : N < 18446744073709551616) : bits .and .u64 ((N : Int) / 2 ^ j) 1 = if N.testBit j = true then 1 else 0 := by
  have e : ((N : Int) / 2 ^ j) = ((N / 2 ^ j : Nat) : Int) := by simp
  have h := u64_and_nat (N / 2 ^ j) 1 (Nat.lt_of_le_of_lt (Nat.div_le_self _ _) hN) (by omega)
  rw [e]
  rw [show (1 : Int) = ((1 : Nat) : Int) from rfl, h, Nat.and_one_is_mod, Nat.testBit_eq_decide_div_mod_eq]
  rcases Nat.mod_two_eq_zero_or_one (N / 2 ^ j) with h | h <;> rw [h] <;> simp

set_option maxRecDepth 20000 in
set_option maxHeartbeats 4000000 in
theorem put_any {w : World} {g : Nat} {v : Value} {b : List Bool} (h : Wr w g v b) (hb : b.length ≤ 549755813888) (N : Nat) (hN : N < 18446744073709551616) (width : Int) :
    Calls Try.prog 43 #[.pointer (some ⟨g, 0, none⟩), .int .u64 (N : Int), .int .i64 width] w fun e w' => e = .returned (.pointer (some ⟨g, 0, none⟩)) ∧ ∃ v', Wr w' g v' (b ++ putBits N (clamp width)) ∧ Fr (WS g v) w w' ∧ Kin w v v' := by
  have H := Lib.hid h
  obtain ⟨m, hm⟩ : ∃ m, clamp width = m := ⟨_, rfl⟩
  have hm64 : m ≤ 64 := by rw [← hm]; exact clamp_le _
  have HD := Lib.hid (held_any width w)
  rw [← clamp_int, hm] at HD
  rw [hm]
  clear h hm
  go_enter Try.func43, Try.ntmps43
  go_wp2_with fail
  refine HD.out.mono ?_
  rintro e w' ⟨rfl, rfl⟩
  go_wp2
  go_loopg [7] m (fun gk i wr => ∃ (k : Nat) (v1 : Value), k + gk = m ∧ i = .int .i64 ((gk : Int) - 1) ∧ Wr wr g v1 (b ++ (putBits N m).take k) ∧ Fr (WS g v) w' wr ∧ Kin w' v v1)
  case atStart => exact ⟨0, v, by omega, rfl, by simpa using H.out, Fr.refl _ _, Kin.refl _ _⟩
  case round =>
    obtain ⟨k, v1, hk, rfl, W1, F1, K1⟩ := hrel
    by_cases h0 : 0 < gk
    · obtain ⟨j, rfl⟩ : ∃ j, gk = j + 1 := ⟨gk - 1, by omega⟩
      have e1 := u64_bit N j hN
      have htk := putBits_take N m k (by omega)
      rw [show m - 1 - k = j by omega] at htk
      obtain ⟨x, hx⟩ : ∃ x, N.testBit j = x := ⟨_, rfl⟩
      rw [hx] at e1 htk
      have HB := Lib.hid (bit_any W1 (by rw [List.length_append, List.length_take, putBits_length]; omega) x)
      rw [List.append_assoc, ← htk] at HB
      have hF := Lib.hid F1
      have hK := Lib.hid K1
      clear hx htk W1 F1 K1
      cases x
      · go_wp2_with fail
        refine HB.out.mono ?_
        rintro e w2 ⟨rfl, v2, W2, F2, K2⟩
        go_wp2
        go_roundg j
        case measure => omega
        case rel => exact ⟨k + 1, v2, by omega, by go_num, W2, ws_trans hF.out hK.out F2, hK.out.trans K2 hF.out.size⟩
      · go_wp2_with fail
        refine HB.out.mono ?_
        rintro e w2 ⟨rfl, v2, W2, F2, K2⟩
        go_wp2
        go_roundg j
        case measure => omega
        case rel => exact ⟨k + 1, v2, by omega, by go_num, W2, ws_trans hF.out hK.out F2, hK.out.trans K2 hF.out.size⟩
    · obtain rfl : gk = 0 := by omega
      obtain rfl : k = m := by omega
      rw [List.take_of_length_le (by rw [putBits_length]; exact Nat.le_refl _)] at W1
      go_wp2
      go_ret
      exact ⟨rfl, v1, W1, F1, K1⟩

theorem putNil_any (w : World) (N width : Int) : Calls Try.prog 43 #[.pointer none, .int .u64 N, .int .i64 width] w fun e w' => e = .returned (.pointer none) ∧ w' = w := by
  go_enter Try.func43, Try.ntmps43
  go_wp2
  go_ret
  exact ⟨rfl, rfl⟩
def flagBits (x : Bool) : List Bool := [x]
theorem put_flag (x : Bool) : putBits x.toNat 1 = [x] := by cases x <;> rfl
theorem Own.shape2 {w : World} {e : TypeId} {v : Value} {xs : List Value} (h : Own w e v xs) : ∃ A c, v = .slice A xs.length c ∧ (A = none → c = 0) ∧ xs.length ≤ c ∧ Rd w A xs := by
  obtain ⟨A, c, e, h1, _, h2⟩ := h.shape
  refine ⟨A, c, e, fun hA => ?_, h1, h2⟩
  subst hA
  rw [e] at h
  rcases h.2 with ⟨h3, _⟩ | ⟨g, cap, cur, h3, _⟩
  · injection h3
  · injection h3 with h4; cases h4
theorem wbytes_any {w : World} {g : Nat} {v : Value} {b : List Bool} (h : Wr w g v b) (hb : b.length ≤ 549755813888) :
    Calls Try.prog 53 #[.pointer (some ⟨g, 0, none⟩)] w fun e w' => ∃ v1, e = .returned v1 ∧ Own w' 5 v1 (bys (pack b)) ∧ Hid (∀ k, v1.ownBlock = some k → w.heap.size ≤ k) ∧ Fr No w w' := by
  obtain ⟨A, c, e, hA, _, R⟩ := h.own.shape2
  rw [bys_length] at e
  have c0 : w.cell? ⟨g, 0, none⟩ = some v := by rw [blk_cell h.blk]; rfl
  rw [e] at c0
  have HC := Lib.hid (clone_any R hA (by rw [pack_length]; omega))
  clear R hA e h
  go_enter Try.func53, Try.ntmps53
  go_wp2_with fail
  refine HC.out.mono ?_
  rintro e w2 ⟨v2, rfl, O2, B2, F2⟩
  go_wp2
  go_ret
  exact ⟨v2, rfl, O2, B2, F2⟩
theorem wbytesNil_any (w : World) : Calls Try.prog 53 #[.pointer none] w fun e w' => e = .returned (.slice none 0 0) ∧ w' = w := by
  go_enter Try.func53, Try.ntmps53
  go_wp2
  go_ret
  exact ⟨rfl, rfl⟩
end Go.Proofs.Ytfnlimcgoeknjaa
