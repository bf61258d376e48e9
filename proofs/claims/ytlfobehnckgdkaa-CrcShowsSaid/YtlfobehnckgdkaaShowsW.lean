import Derived.Test.YtlfobehnckgdkaaOpenW
import Derived.Deep.DeepCutAuto
import Derived.StillTailTactics
namespace Go.Proofs.Ytlfobehnckgdkaa
open Go.RowKit Go

theorem run_bit (r i : Nat) : ((r : Int) / 2 ^ i).tmod 2 = if r.testBit i = true then 1 else 0 := by
  have e : ((r : Int) / 2 ^ i) = ((r / 2 ^ i : Nat) : Int) := by simp
  rw [e, show ((r / 2 ^ i : Nat) : Int).tmod 2 = ((r / 2 ^ i % 2 : Nat) : Int) by rw [Int.tmod_eq_emod_of_nonneg (Int.natCast_nonneg _)]; rfl, Nat.testBit_eq_decide_div_mod_eq]
  rcases Nat.mod_two_eq_zero_or_one (r / 2 ^ i) with h | h <;> rw [h] <;> simp
theorem xor_pow (b : UInt8) (t : Nat) (ht : t < 8) : bits .xor .u8 (b.toNat : Int) ((2 : Int) ^ t % 256) = ((b ^^^ UInt8.ofNat (2 ^ t)).toNat : Int) := by
  have h2 : 2 ^ t < 256 := Nat.lt_of_lt_of_le (Nat.pow_lt_pow_right (by omega) ht) (by decide)
  have e : ((2 : Int) ^ t % 256) = ((2 ^ t : Nat) : Int) := by
    have : ((2 : Int) ^ t) = ((2 ^ t : Nat) : Int) := by simp
    rw [this]
    generalize 2 ^ t = p at *
    omega
  rw [e, u8_xor_nat _ _ b.toNat_lt h2, UInt8.toNat_xor, UInt8.toNat_ofNat_of_lt' h2]
theorem flip_self (l : List UInt8) (j : Nat) : flip l j = l.set (j / 8) (l.getD (j / 8) 0 ^^^ UInt8.ofNat (2 ^ (j % 8))) := rfl

set_option maxRecDepth 20000 in
set_option maxHeartbeats 4000000 in
theorem crcShows_any (A : Option Addr) (c : Nat) (l : List UInt8) (at_ run : Int) (ha : 0 ≤ at_ ∧ at_ ≤ 65535) (hn : 0 ≤ run ∧ run ≤ 65535) (w : World) (hr : Rd w A (bys l)) :
    Calls Try.prog 5 #[.slice A l.length c, .int .u16 at_, .int .u16 run] w fun e w' => e = .returned (.bool true) ∧ Fr No w w' := by
  have hl := hr.1
  rw [bys_length] at hl
  have HR := Lib.hid hr
  clear hr
  go_enter Try.func5, Try.ntmps5
  go_wp2_with fail
  refine (known_any _).mono ?_
  rintro e w1 ⟨rfl, F1⟩
  by_cases hb : 150 < l.length
  · go_wp2_with fail
    refine (known_any _).mono ?_
    rintro e w2 ⟨rfl, F2⟩
    go_wp2
    go_ret
    exact ⟨rfl, F1.trans F2 (fun _ k => k.elim)⟩
  · go_wp2_with fail
    refine (close_any (c := c) (HR.out.no F1) (by omega)).mono ?_
    rintro e w2 ⟨v, rfl, O, B, F2⟩
    have G2 := F1.trans F2 (fun _ k => k.elim)
    obtain ⟨q, hq⟩ : ∃ q, closed l = q := ⟨_, rfl⟩
    have hql : q.length = l.length + 2 := by rw [← hq]; exact closed_length l
    have hqK : Hid (reg q = K) := by show reg q = K; rw [← hq]; exact reg_closed l
    rw [hq] at O
    obtain ⟨g, cc, rfl, hcc, _, hown, _⟩ := O.form (by rw [bys_length]; omega)
    rw [bys_length] at hcc ⊢
    have hgn : Hid (w.heap.size ≤ g) := by
      show w.heap.size ≤ g
      exact Nat.le_trans F1.size (B.out g hown)
    obtain ⟨R, rfl⟩ := Int.eq_ofNat_of_zero_le hn.1
    obtain ⟨T, rfl⟩ := Int.eq_ofNat_of_zero_le ha.1
    obtain ⟨n, hln⟩ : ∃ n, q.length = n := ⟨_, rfl⟩
    have hn2 : n = l.length + 2 := by omega
    have hnb : n ≤ 152 := by omega
    have hn0 : 0 < n := by omega
    rw [hln] at hcc ⊢
    obtain ⟨k, hk⟩ : ∃ k, T % (8 * n) = k := ⟨_, rfl⟩
    have hk8 : k < 8 * n := by rw [← hk]; exact Nat.mod_lt _ (by omega)
    have hTk : (T : Int).tmod (8 * (n : Int)) = (k : Int) := by
      rw [← hk, Int.tmod_eq_emod_of_nonneg (by omega)]; simp
    obtain ⟨rn, hrn⟩ : ∃ rn : Nat, (if R % 2 = 0 then R + 1 else R) = rn := ⟨_, rfl⟩
    have hodd : rn % 2 = 1 := by rw [← hrn]; split <;> omega
    have hr16 : rn < 65536 := by rw [← hrn]; split <;> omega
    have HK := Lib.hid hk8
    have HT := Lib.hid hTk
    have HRN := Lib.hid hrn
    have HOD := Lib.hid hodd
    have HLN := Lib.hid hln
    clear hn2 hk hk8 hTk hrn hodd hown hql B F2 F1 hln
    go_upto_if 25 with (fail)
    go_cut [2] (fun s wc => s = .int .u16 (rn : Int) ∧ wc = w2)
    case first =>
      by_cases h2 : R % 2 = 0
      · have e1 : (R : Int) % 2 = 0 := by omega
        have e2 : Hid (rn = R + 1) := by show rn = R + 1; rw [← HRN.out, if_pos h2]
        have e3 : R + 1 ≤ 65535 := by omega
        clear h2
        go_wp2
        go_meet
        case rel => exact ⟨by rw [e2.out]; go_num, rfl⟩
      · have e1 : (R : Int) % 2 = 1 := by omega
        have e2 : Hid (rn = R) := by show rn = R; rw [← HRN.out, if_neg h2]
        clear h2
        go_wp2
        go_meet
        case rel => exact ⟨by rw [e2.out], rfl⟩
    case rest =>
      obtain ⟨rfl, rfl⟩ := hcut
      have e1 : (T : Int) % (8 * (n : Int)) = (k : Int) := by rw [← HT.out, Int.tmod_eq_emod_of_nonneg (by omega)]
      go_upto_region 7 with (fail)
      rw [e1]
      go_wp2
      go_loopg [9] 16 (fun gg i wr => ∃ (j : Nat), j + gg = 16 ∧ i = .int .i64 j ∧ Own wr 5 (.slice (some ⟨g, 0, none⟩) n cc) (bys (spoil rn k q j)) ∧ Fr No w wr)
      case atStart =>
        rw [bys_length, HLN.out] at O
        exact ⟨0, by omega, rfl, O, G2⟩
      case round =>
        obtain ⟨i, hi, rfl, O1, F1⟩ := hrel
        clear O G2 e1
        by_cases hi16 : i < 16
        · obtain ⟨j, hj⟩ : ∃ j, k + i = j := ⟨_, rfl⟩
          have hjb : j ≤ 2000 := by have := HK.out; omega
          have ej : (k : Int) + (i : Int) = (j : Int) := by omega
          by_cases hbit : rn.testBit i = true
          · have hb1 : ((rn : Int) / 2 ^ i).tmod 2 = 1 := by
              rw [run_bit, if_pos hbit]
            by_cases hj8 : j < 8 * n
            · have hsp : Hid (spoil rn k q (i + 1) = flip (spoil rn k q i) j) := by
                show spoil rn k q (i + 1) = flip (spoil rn k q i) j
                simp only [spoil]
                rw [if_pos ⟨hbit, by rw [HLN.out]; omega⟩, hj]
              obtain ⟨s, hs⟩ : ∃ s, spoil rn k q i = s := ⟨_, rfl⟩
              have hsl : s.length = n := by rw [← hs, spoil_length]; exact HLN.out
              rw [hs] at O1 hsp
              obtain ⟨d, hd⟩ : ∃ d, j / 8 = d := ⟨_, rfl⟩
              have hdn : d < n := by omega
              obtain ⟨b, hb8⟩ : ∃ b, s.getD d 0 = b := ⟨_, rfl⟩
              have O1' := O1
              obtain ⟨g', cc', e, _, _, _, _, hfz, hcl, hset⟩ := O1'.form (by rw [bys_length]; omega)
              rw [bys_length, hsl] at e
              cases e
              have hc1 := hcl d (by rw [bys_length]; omega)
              rw [bys_getD s (by omega), hb8] at hc1
              have hf1 := hfz d
              have i1 : (j : Int) / 8 = (d : Int) := by omega
              have i2 : (j : Int).tdiv 8 = (d : Int) := by rw [Int.tdiv_eq_ediv_of_nonneg (by omega)]; omega
              obtain ⟨t, ht⟩ : ∃ t, j % 8 = t := ⟨_, rfl⟩
              have i3 : (j : Int).tmod 8 = (t : Int) := by rw [Int.tmod_eq_emod_of_nonneg (by omega)]; omega
              have i4 : (j : Int) % 8 = (t : Int) := by omega
              have j1 : (0 : Int) ≤ (d : Int) := by omega
              have j2 : (d : Int) < (n : Int) := by omega
              have j3 : IntKind.i64.wrap (d : Int) = (d : Int) := by rw [IntKind.wrap_i64]; omega
              have j4 : (0 : Int) ≤ (t : Int) := by omega
              have j5 : IntKind.i64.wrap (t : Int) = (t : Int) := by rw [IntKind.wrap_i64]; omega
              have t8 : Hid (t < 8) := by show t < 8; omega
              have HS := Lib.hid hset
              have HD := Lib.hid hd
              have HT8 := Lib.hid ht
              clear hset hcl hfz hd ht
              go_wp2_with fail
              go_still_tail 10, (by kernel_rfl)
              go_wp2
              go_roundg (15 - i)
              case measure => omega
              case rel =>
                refine ⟨i + 1, by omega, by go_num, ?_, (F1.setCell (.inr hgn.out) _).drew⟩
                rw [hsp.out, flip_self]
                rw [xor_pow b t t8.out]
                have := HS.out d (.int .u8 ((b ^^^ UInt8.ofNat (2 ^ t)).toNat : Int)) (by rw [bys_length]; omega)
                rw [bys_set] at this
                rw [HD.out, HT8.out, hb8]
                exact this
            · have hsp : Hid (spoil rn k q (i + 1) = spoil rn k q i) := by
                show spoil rn k q (i + 1) = spoil rn k q i
                simp only [spoil]
                rw [if_neg (by rw [HLN.out]; omega)]
              go_wp2
              go_roundg (15 - i)
              case measure => omega
              case rel => exact ⟨i + 1, by omega, by go_num, by rw [hsp.out]; exact O1, F1⟩
          · have hsp : Hid (spoil rn k q (i + 1) = spoil rn k q i) := by
              show spoil rn k q (i + 1) = spoil rn k q i
              simp only [spoil]
              rw [if_neg (fun h => hbit h.1)]
            have hb1 : ((rn : Int) / 2 ^ i).tmod 2 = 0 := by
              rw [run_bit, if_neg hbit]
            go_wp2
            go_roundg (15 - i)
            case measure => omega
            case rel => exact ⟨i + 1, by omega, by go_num, by rw [hsp.out]; exact O1, F1⟩
        · obtain rfl : i = 16 := by omega
          have hne : reg (spoil rn k q 16) ≠ K := shown rn k q (by rw [Nat.testBit_zero, HOD.out]; rfl) (by rw [HLN.out]; exact HK.out) hqK.out
          obtain ⟨s, hs⟩ : ∃ s, spoil rn k q 16 = s := ⟨_, rfl⟩
          have hsl : s.length = n := by rw [← hs, spoil_length]; exact HLN.out
          rw [hs] at hne O1
          have hcode : code s = 3 := by unfold code; rw [if_neg (by rw [hsl, ← HLN.out, ← hq, closed_length]; omega), if_neg hne]
          obtain ⟨A2, c2, e, h3, _, R2⟩ := O1.shape
          rw [bys_length, hsl] at e
          cases e
          have OP := open_any (c := cc) R2 (by rw [hsl]; exact hcc) (by omega)
          rw [hcode, hsl] at OP
          have HOP := Lib.hid OP
          clear OP R2 O1 hne hs
          go_wp2_with fail
          refine HOP.out.mono ?_
          rintro e w5 ⟨v5, rfl, _, _, F5⟩
          go_wp2
          go_ret
          exact ⟨rfl, F1.trans F5 (fun _ k => k.elim)⟩
end Go.Proofs.Ytlfobehnckgdkaa
