import Derived.Test.YtfnlimcgoeknjaaProg
import Derived.Test.YtfnlimcgoeknjaaMem
import Derived.Test.YtfnlimcgoeknjaaCrcP
import Derived.Laws.BitsAllLaws
namespace Go.Proofs.Ytfnlimcgoeknjaa
open Go.RowKit Go

theorem u16_one (y : BitVec 16) : bits .and .u16 (y.toNat : Int) 1 = (((y.toNat % 2 : Nat)) : Int) := by
  have h := y.isLt
  have := u16_and_nat y.toNat 1 (by omega) (by omega)
  rw [Nat.and_one_is_mod] at this
  exact this
theorem u16_xor_bv (a b : BitVec 16) : bits .xor .u16 (a.toNat : Int) (b.toNat : Int) = ((a ^^^ b).toNat : Int) := by
  rw [u16_xor_nat _ _ a.isLt b.isLt, BitVec.toNat_xor]
theorem turn_odd (y : BitVec 16) (h : y.toNat % 2 = 1) : turn y = (y >>> 1) ^^^ 40961#16 := by
  unfold turn
  rw [show y.getLsbD 0 = true by simp [BitVec.getLsbD, Nat.testBit_zero, h]]
  simp
theorem turn_even (y : BitVec 16) (h : y.toNat % 2 = 0) : turn y = y >>> 1 := by
  unfold turn
  rw [show y.getLsbD 0 = false by simp [BitVec.getLsbD, Nat.testBit_zero, h]]
  simp
theorem shr_nat (y : BitVec 16) : ((y.toNat : Int) / 2) = ((y >>> 1).toNat : Int) := by
  rw [BitVec.toNat_ushiftRight, Nat.shiftRight_eq_div_pow]; simp
theorem u16_feed (y : BitVec 16) (b : UInt8) : bits .xor .u16 (y.toNat : Int) (b.toNat : Int) = ((y ^^^ b16 b).toNat : Int) := by
  have hb := b.toNat_lt
  rw [u16_xor_nat _ _ y.isLt (by omega), BitVec.toNat_xor]
  unfold b16
  rw [BitVec.toNat_ofNat, Nat.mod_eq_of_lt (a := b.toNat) (by omega)]
theorem u16_poly (y : BitVec 16) : bits .xor .u16 (y.toNat : Int) 40961 = ((y ^^^ 40961#16).toNat : Int) := u16_xor_bv y 40961#16

theorem wrap16_b (b : UInt8) : IntKind.u16.wrap (b.toNat : Int) = (b.toNat : Int) := by
  have hb := b.toNat_lt
  rw [IntKind.wrap_u16]; omega
theorem reg_take (l : List UInt8) (k : Nat) (h : k < l.length) : reg (l.take (k + 1)) = feed (reg (l.take k)) (l.getD k 0) := by
  unfold reg regx
  rw [List.take_add_one, List.foldl_append, List.getD_eq_getElem?_getD, List.getElem?_eq_getElem h]
  rfl

theorem crcOf_any (A : Option Addr) (c : Nat) (l : List UInt8) (w : World) (hr : Rd w A (bys l)) :
    Calls Try.prog 78 #[.slice A l.length c] w fun e w' => e = .returned (.int .u16 ((crc l).toNat : Int)) ∧ w = w' := by
  have hl := hr.1
  rw [bys_length] at hl
  have HR := Lib.hid hr
  clear hr
  go_enter Try.func78, Try.ntmps78
  go_wp2
  go_loopg [3, 9] (l.length) (fun g r i wr => ∃ (k : Nat), k + g = l.length ∧ i = .int .i64 k ∧ r = .int .u16 (reg (l.take k)).toNat ∧ w = wr)
  case atStart => exact ⟨0, by omega, rfl, rfl, rfl⟩
  case round =>
    obtain ⟨k, hk, rfl, rfl, rfl⟩ := hrel
    by_cases hlt : k < l.length
    · obtain ⟨ad, b, rfl, hck, hb⟩ := HR.out.byte' hlt
      have hfeed : Hid (reg (l.take (k + 1)) = feed (reg (l.take k)) b) := by
        show reg (l.take (k + 1)) = feed (reg (l.take k)) b
        rw [← hb.out]; exact reg_take l k hlt
      go_wp2
      rw [wrap16_b, u16_feed]
      go_loopg [3, 6, 17] 8 (fun g r tt i wr => ∃ (k' : Nat), k' + g = 8 ∧ i = .int .i64 k' ∧ r = .int .u16 (turns k' (reg (l.take k) ^^^ b16 b)).toNat ∧ wr = w)
      case atStart => exact ⟨0, by omega, rfl, rfl, rfl⟩
      case round =>
        obtain ⟨j, hj, rfl, rfl, rfl⟩ := hrel
        by_cases hj8 : j < 8
        · generalize hy : turns j (reg (l.take k) ^^^ b16 b) = y
          have hs : Hid (turns (j + 1) (reg (l.take k) ^^^ b16 b) = turn y) := by
            show turns (j + 1) (reg (l.take k) ^^^ b16 b) = turn y
            rw [turns_succ, hy]
          clear hy
          rcases Nat.mod_two_eq_zero_or_one y.toNat with h2 | h2
          · have e1 : bits .and .u16 (y.toNat : Int) 1 = 0 := by rw [u16_one, h2]; rfl
            have e2 := turn_even y h2
            go_wp2
            go_roundg (7 - j)
            case measure => omega
            case rel => exact ⟨j + 1, by omega, by go_num, by rw [hs.out, e2, ← shr_nat]; rfl, rfl⟩
          · have e1 : bits .and .u16 (y.toNat : Int) 1 = 1 := by rw [u16_one, h2]; rfl
            have e2 := turn_odd y h2
            go_wp2
            go_roundg (7 - j)
            case measure => omega
            case rel => exact ⟨j + 1, by omega, by go_num, by rw [hs.out, e2, ← u16_poly, ← shr_nat]; rfl, rfl⟩
        · obtain rfl : j = 8 := by omega
          go_wp2
          go_roundg (l.length - (k + 1))
          case measure => omega
          case rel => exact ⟨k + 1, by omega, by go_num, by rw [hfeed.out]; rfl, rfl⟩
    · obtain rfl : k = l.length := by omega
      go_wp2
      go_ret
      refine ⟨?_, rfl⟩
      show Ending.returned (.int .u16 (bits .xor .u16 ((65535#16).toNat : Int) ((reg l).toNat : Int))) = _
      rw [u16_xor_bv]
      have e : 65535#16 ^^^ reg l = crc l := by
        apply BitVec.eq_of_getLsbD_eq
        intro i hi
        unfold crc
        rw [BitVec.getLsbD_xor, BitVec.getLsbD_not, show (65535#16 : BitVec 16) = BitVec.allOnes 16 by decide, BitVec.getLsbD_allOnes]
        cases (reg l).getLsbD i <;> simp [hi]
      rw [e]

/-- The document's register: bit by bit, in a row of bools. -/
def mid (x : BitVec 16) (j : Nat) : List Value := (List.range 16).map fun i => .bool (if i < j then x.getLsbD (i + 1) else x.getLsbD i)
def bitsOf (x : BitVec 16) : List Value := (List.range 16).map fun i => .bool (x.getLsbD i)
theorem mid_zero (x : BitVec 16) : mid x 0 = bitsOf x := by simp [mid, bitsOf]
theorem mid_length (x : BitVec 16) (j : Nat) : (mid x j).length = 16 := by simp [mid]
theorem bitsOf_length (x : BitVec 16) : (bitsOf x).length = 16 := by simp [bitsOf]
theorem bitsOf_get (x : BitVec 16) (j : Nat) (h : j < 16) : (bitsOf x)[j]? = some (.bool (x.getLsbD j)) := by simp [bitsOf, h]
theorem mid_get (x : BitVec 16) (k j : Nat) (h : j < 16) : (mid x k)[j]? = some (.bool (if j < k then x.getLsbD (j + 1) else x.getLsbD j)) := by simp [mid, h]
theorem mid_set (x : BitVec 16) (j : Nat) (_h : j < 15) : (mid x j).set j (.bool (x.getLsbD (j + 1))) = mid x (j + 1) := by
  apply List.ext_getElem?
  intro i
  by_cases hi : i < 16
  · rw [List.getElem?_set, mid_length]
    by_cases e : j = i
    · subst e; rw [if_pos rfl, if_pos (by omega), mid_get _ _ _ hi, if_pos (by omega)]
    · rw [if_neg e, mid_get _ _ _ hi, mid_get _ _ _ hi]
      by_cases h2 : i < j
      · rw [if_pos h2, if_pos (by omega)]
      · rw [if_neg h2, if_neg (by omega)]
  · rw [List.getElem?_eq_none (by simp [mid_length]; omega), List.getElem?_eq_none (by simp [mid_length]; omega)]
theorem mid_last (x : BitVec 16) : (mid x 15).set 15 (.bool false) = bitsOf (x >>> 1) := by
  apply List.ext_getElem?
  intro i
  by_cases hi : i < 16
  · rw [List.getElem?_set, mid_length, bitsOf_get _ _ hi, BitVec.getLsbD_ushiftRight]
    by_cases e : 15 = i
    · subst e; rw [if_pos rfl, if_pos (by omega), BitVec.getLsbD_of_ge _ _ (by omega)]
    · rw [if_neg e, mid_get _ _ _ hi, if_pos (by omega), Nat.add_comm]
  · rw [List.getElem?_eq_none (by simp [mid_length]; omega), List.getElem?_eq_none (by simp [bitsOf_length]; omega)]
theorem bits_poly (x : BitVec 16) : (((bitsOf x).set 0 (.bool (!x.getLsbD 0))).set 13 (.bool (!x.getLsbD 13))).set 15 (.bool (!x.getLsbD 15)) = bitsOf (x ^^^ 40961#16) := by
  apply List.ext_getElem?
  intro i
  by_cases hi : i < 16
  · rw [bitsOf_get _ _ hi, BitVec.getLsbD_xor]
    have : i = 0 ∨ i = 1 ∨ i = 2 ∨ i = 3 ∨ i = 4 ∨ i = 5 ∨ i = 6 ∨ i = 7 ∨ i = 8 ∨ i = 9 ∨ i = 10 ∨ i = 11 ∨ i = 12 ∨ i = 13 ∨ i = 14 ∨ i = 15 := by omega
    rcases this with rfl | rfl | rfl | rfl | rfl | rfl | rfl | rfl | rfl | rfl | rfl | rfl | rfl | rfl | rfl | rfl <;> simp [bitsOf]
  · rw [List.getElem?_eq_none (by simp [bitsOf_length]; omega), List.getElem?_eq_none (by simp [bitsOf_length]; omega)]
/-- One bit, as the document takes it. -/
def took (x : BitVec 16) (c : Bool) : BitVec 16 := (x >>> 1) ^^^ (if x.getLsbD 0 != c then 40961#16 else 0#16)
theorem took_turn (x y : BitVec 16) : turn (x ^^^ y) = took x (y.getLsbD 0) ^^^ (y >>> 1) := by
  unfold turn took
  rw [BitVec.ushiftRight_xor_distrib, BitVec.getLsbD_xor, BitVec.xor_assoc, BitVec.xor_assoc, BitVec.xor_comm (y >>> 1)]
def refs (b : UInt8) : Nat → BitVec 16 → BitVec 16
  | 0, x => x
  | k + 1, x => took (refs b k x) ((b16 b).getLsbD k)
theorem refs_turns (b : UInt8) (x : BitVec 16) : ∀ k, turns k (x ^^^ b16 b) = refs b k x ^^^ (b16 b >>> k)
  | 0 => by simp [turns, refs]
  | k + 1 => by
    rw [turns_succ, refs_turns b x k, took_turn]
    simp only [refs]
    rw [BitVec.getLsbD_ushiftRight, Nat.add_zero, ← BitVec.shiftRight_add]
theorem refs_feed (b : UInt8) (x : BitVec 16) : refs b 8 x = feed x b := by
  have h := refs_turns b x 8
  have h0 : b16 b >>> 8 = 0#16 := by
    apply BitVec.eq_of_toNat_eq
    rw [BitVec.toNat_ushiftRight, Nat.shiftRight_eq_div_pow]
    unfold b16
    have := b.toNat_lt
    rw [BitVec.toNat_ofNat, Nat.mod_eq_of_lt (by omega)]
    simp; omega
  unfold feed
  rw [h, h0]; simp
end Go.Proofs.Ytfnlimcgoeknjaa
