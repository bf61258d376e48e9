import Derived.Test.YtngjfebndhmlmaaMsgP
import Derived.Test.YtngjfebndhmlmaaEncW
import Derived.Deep.RegionHeld3
namespace Go.Proofs.Ytngjfebndhmlmaa
open Go.RowKit Go

def sixes (l : List Int) : List Bool := l.flatMap fun x => putBits (u64 x) 6
def tbits (l : List Int) : List Bool := putBits l.length 4 ++ sixes l
theorem sixes_length : ∀ l : List Int, (sixes l).length = 6 * l.length
  | [] => rfl
  | x :: l => by
    have := sixes_length l
    simp only [sixes, List.flatMap_cons, List.length_append, putBits_length, List.length_cons] at *
    omega
theorem sixes_take (l : List Int) (k : Nat) (h : k < l.length) : sixes (l.take (k + 1)) = sixes (l.take k) ++ putBits (u64 (l.getD k 0)) 6 := by
  unfold sixes
  rw [List.take_add_one, List.flatMap_append, List.getD_eq_getElem?_getD, List.getElem?_eq_getElem h]
  simp
theorem tbits_length (l : List Int) : (tbits l).length = 4 + 6 * l.length := by simp [tbits, sixes_length, putBits_length]

set_option maxRecDepth 20000 in
set_option maxHeartbeats 4000000 in
theorem trail_any {w0 w : World} {g : Nat} {b : List Bool} {A : Option Addr} {c : Nat} {l : List Int} (h : EncAt w0 w g b) (R : Rd w0 A (ints .i64 l)) (hb : b.length ≤ 1000000) (hl : l.length ≤ 1000000) :
    Calls Try.prog 30 #[.pointer (some ⟨g, 0, none⟩), .slice A l.length c] w fun e w' => e = .returned (.tuple #[]) ∧ EncAt w0 w' g (b ++ tbits l) := by
  have HP := Lib.hid (put_enc h (by omega) l.length (by omega) 4 4 rfl)
  have HR := Lib.hid R
  have e0 : IntKind.u64.wrap (l.length : Int) = (l.length : Int) := by rw [IntKind.wrap_u64]; omega
  clear h R
  go_enter Try.func30, Try.ntmps30
  go_wp2_with fail
  refine HP.out.mono ?_
  rintro e w1 ⟨rfl, E1⟩
  have HE := Lib.hid E1
  clear E1 HP
  go_wp2
  go_loopg [13] l.length (fun gk i wr => ∃ k : Nat, k + gk = l.length ∧ i = .int .i64 (k : Int) ∧ Hid (EncAt w0 wr g (b ++ putBits l.length 4 ++ sixes (l.take k))))
  case atStart => exact ⟨0, by omega, rfl, by show EncAt w0 w1 g _; simpa [sixes] using HE.out⟩
  case round =>
    obtain ⟨k, hk, rfl, E2⟩ := hrel
    clear HE
    by_cases hkl : k < l.length
    · obtain ⟨ad, rfl, c0⟩ := (HR.out.no E2.out.old).int hkl
      obtain ⟨x, hx⟩ : ∃ x, l.getD k 0 = x := ⟨_, rfl⟩
      have ht := Lib.hid (sixes_take l k hkl)
      rw [hx] at c0 ht
      have hln : (sixes (l.take k)).length ≤ 6 * l.length := by rw [sixes_length, List.length_take]; omega
      have HP := Lib.hid (put_enc E2.out (by simp only [List.length_append, putBits_length]; omega) (u64 x) (u64_lt x) 6 6 rfl)
      rw [List.append_assoc, ← ht.out] at HP
      have e1 := u64_wrap x
      clear hx hln
      go_wp2_with fail
      refine HP.out.mono ?_
      rintro e w2 ⟨rfl, E3⟩
      have HE := Lib.hid E3
      clear E3
      go_wp2
      go_roundg (l.length - (k + 1))
      case measure => omega
      case rel => exact ⟨k + 1, by omega, by go_num, HE⟩
    · obtain rfl : k = l.length := by omega
      have hfin : Hid (EncAt w0 wr g (b ++ tbits l)) := by
        show EncAt w0 wr g (b ++ tbits l)
        have := E2.out
        rw [List.take_length, List.append_assoc] at this
        exact this
      go_wp2
      go_end0
      exact ⟨rfl, hfin.out⟩

set_option maxRecDepth 20000 in
set_option maxHeartbeats 4000000 in
theorem refTrail_any {w0 w : World} {v : Value} {b : List Bool} {A : Option Addr} {c : Nat} {l : List Int} (h : BitsAt w0 w v b) (R : Rd w0 A (ints .i64 l)) (hb : b.length ≤ 1000000) (hl : l.length ≤ 1000000) :
    Calls Try.prog 23 #[v, .slice A l.length c] w fun e w' => ∃ v', e = .returned v' ∧ BitsAt w0 w' v' (b ++ tbits l) := by
  have HP := Lib.hid (put_bitsAt h (by omega) l.length 4 4 rfl (by omega))
  have HR := Lib.hid R
  have e0 : IntKind.u64.wrap (l.length : Int) = (l.length : Int) := by rw [IntKind.wrap_u64]; omega
  clear h R
  go_enter Try.func23, Try.ntmps23
  go_wp2_with fail
  refine HP.out.mono ?_
  rintro e w1 ⟨v1, rfl, E1⟩
  have HE := Lib.hid E1
  clear E1 HP
  go_wp2
  go_loopg [0, 5] l.length (fun gk v i wr => ∃ (k : Nat) (v2 : Value), k + gk = l.length ∧ v2 = v ∧ i = .int .i64 (k : Int) ∧ Hid (BitsAt w0 wr v2 (b ++ putBits l.length 4 ++ sixes (l.take k))))
  case atStart => exact ⟨0, _, by omega, rfl, rfl, by show BitsAt w0 w1 _ _; simpa [sixes] using HE.out⟩
  case round =>
    obtain ⟨k, v2, hk, rfl, rfl, E2⟩ := hrel
    clear HE
    by_cases hkl : k < l.length
    · obtain ⟨ad, rfl, c0⟩ := (HR.out.no E2.out.2.1).int hkl
      obtain ⟨x, hx⟩ : ∃ x, l.getD k 0 = x := ⟨_, rfl⟩
      have ht := Lib.hid (sixes_take l k hkl)
      rw [hx] at c0 ht
      have hln : (sixes (l.take k)).length ≤ 6 * l.length := by rw [sixes_length, List.length_take]; omega
      have HP := Lib.hid (put_bitsAt E2.out (by simp only [List.length_append, putBits_length]; omega) (u64 x) 6 6 rfl (by omega))
      rw [List.append_assoc, ← ht.out] at HP
      have e1 := u64_wrap x
      clear hx hln
      go_wp2_with fail
      refine HP.out.mono ?_
      rintro e w2 ⟨v3, rfl, E3⟩
      have HE := Lib.hid E3
      clear E3
      go_wp2
      go_roundg (l.length - (k + 1))
      case measure => omega
      case rel => exact ⟨k + 1, v3, by omega, rfl, by go_num, HE⟩
    · obtain rfl : k = l.length := by omega
      have hfin : Hid (BitsAt w0 wr v2 (b ++ tbits l)) := by
        show BitsAt w0 wr v2 (b ++ tbits l)
        have := E2.out
        rw [List.take_length, List.append_assoc] at this
        exact this
      go_wp2
      go_ret
      exact ⟨v2, rfl, hfin.out⟩
end Go.Proofs.Ytngjfebndhmlmaa
