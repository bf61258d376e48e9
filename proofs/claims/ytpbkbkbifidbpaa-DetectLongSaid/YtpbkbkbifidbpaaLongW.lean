import Derived.Test.YtpbkbkbifidbpaaNil
namespace Go.Proofs.Ytpbkbkbifidbpaa
open Go.RowKit Go
attribute [local go_sem] max2_int min2_int max_two min_two

theorem one_zero (c : Int) : one 0 c = min (c + 1) 1001 := by simp [one]
theorem one_other {b : UInt8} (h : b ≠ 0) (c : Int) : one b c = 0 := by simp [one, h]

def S1000 (s : Int) : Prop := 1000 ≤ s ∧ s ≤ 1000
set_option maxRecDepth 20000 in
set_option maxHeartbeats 4000000 in
/-- The second half: what was spoilt lies behind. -/
theorem detectLong_any (a m : Int) (b : UInt8) (n : Int) (hn : (b.toNat : Int) = n) (ha : 0 ≤ a ∧ a < 65536) (hm : 0 ≤ m ∧ m < 65536) (w : World) :
    Calls Try.prog 4 #[.int .u16 a, .int .u16 m, .int .u8 n] w fun e w' => e = .returned (.bool true) ∧ Fr No w w' := by
  obtain ⟨s, hs0, hs1⟩ : ∃ s : Int, s = min (a % 1200) 1000 ∧ (0 ≤ s ∧ s ≤ 1000) := ⟨_, rfl, by omega⟩
  have hst : min (max (a % 1200) 0) 1000 = s := by omega
  have HS := Lib.hid hs0
  have HST := Lib.hid hst
  clear hs0 hst
  obtain ⟨b', hb', hbb⟩ : ∃ b' : UInt8, b' ≠ 0 ∧ ((b = 0 ∧ b' = 1) ∨ (b ≠ 0 ∧ b' = b)) := by
    by_cases h : b = 0
    · exact ⟨1, by decide, .inl ⟨h, rfl⟩⟩
    · exact ⟨b, h, .inr ⟨h, rfl⟩⟩
  have hn0 : (b = 0 ∧ n = 0) ∨ (b ≠ 0 ∧ n ≠ 0) := by
    by_cases h : b = 0
    · exact .inl ⟨h, by rw [← hn, h]; rfl⟩
    · refine .inr ⟨h, fun e => h ?_⟩
      have := u8_zero (b := b)
      rw [hn, e] at this
      simpa using this.symm
  have hbb' : b'.toNat ≠ 0 := fun e => hb' (UInt8.toNat.inj (by simpa using e))
  have hXb : (1000 < a % 1200 ∧ S1000 s) ∨ (a % 1200 ≤ 1000 ∧ s ≤ a % 1200 ∧ a % 1200 ≤ s) := by
    have := HS.out
    unfold S1000
    omega
  have hnb : (b = 0 ∧ n = 0 ∧ b' = 1) ∨ ((b ≠ 0 ∧ n ≠ 0) ∧ b' = b) := by
    rcases hbb with ⟨h1, h2⟩ | ⟨h1, h2⟩ <;> rcases hn0 with ⟨h3, h4⟩ | ⟨h3, h4⟩
    · exact .inl ⟨h1, h4, h2⟩
    · exact absurd h1 h3
    · exact absurd h3 h1
    · exact .inr ⟨⟨h1, h4⟩, h2⟩
  clear hbb hn0
  have hmm : 0 ≤ m % 50 ∧ m % 50 < 50 := by omega
  rcases hXb with ⟨hx1, hx2, hx3⟩ | ⟨hx1, hx2, hx3⟩ <;> rcases hnb with ⟨_, hn1, hb1⟩ | ⟨⟨_, hn1⟩, hb1⟩
  all_goals
    try (have hnz : (n == 0) = true := by simp [hn1])
    try (have hnz : (n == 0) = false := by simp [hn1])
    have HB1 := Lib.hid hb1
    have HN1 := Lib.hid hn1
    have HN := Lib.hid hn
    clear hb1 hn1 hn
    go_enter Try.func4, Try.ntmps4
    go_wp2_with fail
    refine (stays_any _).mono ?_
    rintro e w1 ⟨rfl, fr1⟩
    go_wp2_with fail
    refine (new_any 1 _ _).mono ?_
    rintro e w2 ⟨g, q, rfl, F2, hg, hq, fr2⟩
    rw [HST.out] at F2
    have F2' : Filt w2 g q [0] s := F2
    have fr2' : Fr No w w2 := fr1.trans fr2 (fun _ k => k.elim)
    have hq' : w.heap.size ≤ q := Nat.le_trans fr1.size hq
    clear F2
    go_wp2
    go_loopg [9] 51 (fun k i wr => ∃ (j : Nat) (c : Int), j + k = 51 ∧ i = .int .i64 j ∧ (0 ≤ c ∧ c ≤ 1001) ∧ Filt wr g q [c] s ∧ Fr No w wr)
    case atStart => exact ⟨0, 0, by omega, rfl, by omega, F2', fr2'⟩
    case round =>
      obtain ⟨j, c, hj, rfl, hc, F3, fr3⟩ := hrel
      clear F2'
      by_cases hjm : (j : Int) < m % 50
      · go_wp2_with fail
        refine (step_one F3 hc 0 0 rfl).mono ?_
        rintro e w4 ⟨v, rfl, _, _, F4, fr4⟩
        go_wp2
        go_roundg (51 - (j + 1))
        case measure => omega
        case rel => exact ⟨j + 1, _, by omega, by go_num, one_small _ hc, F4, fr3.trans fr4 (fun i hi => .inr (by omega))⟩
      · go_wp2_with fail
        refine (step_one F3 hc b' _ ?hn).mono ?_
        case hn => first | (rw [HB1.out]; rfl) | (rw [HB1.out]; exact HN.out)
        rintro e w4 ⟨v, rfl, _, _, F4, fr4⟩
        rw [one_other hb'] at F4
        have fr4' : Fr No w w4 := fr3.trans fr4 (fun i hi => .inr (by omega))
        clear F3 fr4 hjm hj
        go_wp2
        go_loopg [10] 1004 (fun k i wr => ∃ (j : Nat), 1 ≤ j ∧ j + k = 1005 ∧ i = .int .i64 j ∧ Filt wr g q [min ((j : Int) - 1) 1001] s ∧ Fr No w wr)
        case atStart => exact ⟨1, by omega, by omega, rfl, F4, fr4'⟩
        case round =>
          obtain ⟨i, hi1, hi2, rfl, F5, fr5⟩ := hrel
          clear F4
          by_cases hle : (i : Int) ≤ s + 3
          · have e1 : one 0 (min ((i : Int) - 1) 1001) = min (((i + 1 : Nat) : Int) - 1) 1001 := by rw [one_zero]; omega
            by_cases his : s < (i : Int)
            · have e2 : decide (s < one 0 (min ((i : Int) - 1) 1001)) = true := by rw [e1]; simp; omega
              try (have hd1 : decide ((1000 : Int) < (i : Int)) = true := decide_eq_true (by omega))
              try (have hd2 : decide (a % 1200 < (i : Int)) = true := decide_eq_true (by omega))
              go_wp2_with fail
              refine (step_one F5 (by omega) 0 0 rfl).mono ?_
              rintro e w6 ⟨v, rfl, o6, _, F6, fr6⟩
              rw [e2] at o6
              rw [e1] at F6
              obtain ⟨Av, cv, rfl, rv, _⟩ := own_bool1 o6
              obtain ⟨ad, rfl, hcell⟩ := rv.bool (j := 0) (by simp)
              have hcell' : w6.cell? ad = some (.bool true) := by simpa [Addr.add] using hcell
              have E1 := Lib.hid e1
              clear e1 e2 o6 rv hcell
              go_wp2
              go_roundg (1005 - (i + 1))
              case measure => omega
              case rel => exact ⟨i + 1, by omega, by omega, by go_num, F6, fr5.trans fr6 (fun i hi => .inr (by omega))⟩
            · have e2 : decide (s < one 0 (min ((i : Int) - 1) 1001)) = false := by rw [e1]; simp; omega
              try (have hd1 : decide ((1000 : Int) < (i : Int)) = false := decide_eq_false (by omega))
              try (have hd2 : decide (a % 1200 < (i : Int)) = false := decide_eq_false (by omega))
              go_wp2_with fail
              refine (step_one F5 (by omega) 0 0 rfl).mono ?_
              rintro e w6 ⟨v, rfl, o6, _, F6, fr6⟩
              rw [e2] at o6
              rw [e1] at F6
              obtain ⟨Av, cv, rfl, rv, _⟩ := own_bool1 o6
              obtain ⟨ad, rfl, hcell⟩ := rv.bool (j := 0) (by simp)
              have hcell' : w6.cell? ad = some (.bool false) := by simpa [Addr.add] using hcell
              have E1 := Lib.hid e1
              clear e1 e2 o6 rv hcell
              go_wp2
              go_roundg (1005 - (i + 1))
              case measure => omega
              case rel => exact ⟨i + 1, by omega, by omega, by go_num, F6, fr5.trans fr6 (fun i hi => .inr (by omega))⟩
          · have e3 : cnt [min ((i : Int) - 1) 1001] 0 ≤ 1001 := by simp [cnt]; omega
            go_wp2_with fail
            refine (count_any F5 0).mono ?_
            rintro e w' ⟨rfl, rfl⟩
            go_wp2
            go_ret
            exact ⟨rfl, fr5⟩
end Go.Proofs.Ytpbkbkbifidbpaa
