import Derived.Test.YtpbkbkbifidbpaaNil
namespace Go.Proofs.Ytpbkbkbifidbpaa
open Go.RowKit Go
attribute [local go_sem] max2_int min2_int max_two min_two

/-- The n newest ones, up to place i, are noughts. -/
def Quiet (l : List UInt8) (i n : Nat) : Prop := n ≤ i ∧ ∀ k, k < n → l.getD (i - 1 - k) 1 = 0
theorem quiet_step {l : List UInt8} {i n : Nat} (h : Quiet l i n) : Quiet l (i + 1) (if l.getD i 1 = 0 then min (n + 1) 1001 else 0) := by
  obtain ⟨h1, h2⟩ := h
  by_cases h0 : l.getD i 1 = 0
  · rw [if_pos h0]
    refine ⟨by omega, fun k hk => ?_⟩
    match k with
    | 0 => simpa using h0
    | k + 1 =>
      have := h2 k (by omega)
      rwa [show i + 1 - 1 - (k + 1) = i - 1 - k by omega]
  · rw [if_neg h0]
    exact ⟨by omega, fun k hk => by omega⟩

set_option maxRecDepth 20000 in
set_option maxHeartbeats 2000000 in
theorem detectSure_any (A : Option Addr) (cap : Nat) (l : List UInt8) (s : Int) (hs : 0 ≤ s ∧ s < 256) (w : World) (hr : Rd w A (bys l)) (hcap : l.length ≤ cap) (_hm : cap ≤ 9223372036854775807) :
    Calls Try.prog 5 #[.slice A l.length cap, .int .u8 s] w fun e w' => e = .returned (.bool true) ∧ Fr No w w' := by
  have HR := Lib.hid hr
  clear hr
  by_cases hbig : 200 < l.length
  · go_enter Try.func5, Try.ntmps5
    go_wp2_with fail
    refine (stays_any _).mono ?_
    rintro e w1 ⟨rfl, fr1⟩
    go_wp2_with fail
    refine (stays_any _).mono ?_
    rintro e w2 ⟨rfl, fr2⟩
    go_wp2
    go_ret
    exact ⟨rfl, fr1.trans fr2 (fun _ k => k.elim)⟩
  · have HST := Lib.hid (show min (max s 0) 1000 = s by omega)
    go_enter Try.func5, Try.ntmps5
    go_wp2_with fail
    refine (stays_any _).mono ?_
    rintro e w1 ⟨rfl, fr1⟩
    go_wp2_with fail
    refine (new_any 1 _ _).mono ?_
    rintro e w2 ⟨g, q, rfl, F2, hg, hq, fr2⟩
    rw [HST.out] at F2
    have F2' : Filt w2 g q [((0 : Nat) : Int)] s := F2
    have fr2' : Fr No w w2 := fr1.trans fr2 (fun _ k => k.elim)
    have hq' : w.heap.size ≤ q := Nat.le_trans fr1.size hq
    clear F2
    go_wp2
    go_loopg [6] l.length (fun k i wr => ∃ (j n : Nat), j + k = l.length ∧ i = .int .i64 j ∧ n ≤ 1001 ∧ Hid (Quiet l j n) ∧ Filt wr g q [(n : Int)] s ∧ Fr No w wr)
    case atStart => exact ⟨0, 0, by omega, rfl, by omega, ⟨by omega, fun k hk => by omega⟩, F2', fr2'⟩
    case round =>
      obtain ⟨j, n, hj, rfl, hn, HQ, F3, fr3⟩ := hrel
      clear F2'
      by_cases hjl : j < l.length
      · obtain ⟨ad, b, rfl, hc, hb⟩ := (HR.out.no fr3).byte' hjl
        have hlt : ad.block < w.heap.size := HR.out.lt (by rw [bys_length]; omega)
        have hrd1 : Rd wr (some (ad.add j)) (bys [b]) := ⟨by simp [bys], fun m hm => ⟨_, rfl, by
          have : m = 0 := by simp [bys] at hm; omega
          subst this
          have e : (ad.add j).add 0 = ad.add j := by unfold Addr.add; split <;> simp_all
          rw [e, hc]; rfl⟩⟩
        have hstep := step_any F3 (small_one (by omega)) (some (ad.add j)) (cap - j) [b] hrd1 (fun a e => by cases e; rw [Addr.add_block]; omega)
        have e1 : nxt [b] 0 (n : Int) = one b n := by unfold nxt one; by_cases h0 : b = 0 <;> simp [h0]
        have e2 : bls (told [b] [(n : Int)] s [(n : Int)].length) = [.bool (decide (s < one b n))] := by simp [told, bls, List.range_succ, e1]
        have e3 : upd [b] [(n : Int)] [(n : Int)].length = [one b n] := by simp [upd, List.range_succ, e1]
        rw [e2, e3] at hstep
        have hq2 := quiet_step HQ.out
        have hbl : l.getD j 1 = b := by
          have := hb.out
          rw [List.getD_eq_getElem?_getD, List.getElem?_eq_getElem hjl] at this ⊢
          exact this
        rw [hbl] at hq2
        obtain ⟨n', hn', hn2⟩ : ∃ n' : Nat, n' = (if b = 0 then min (n + 1) 1001 else 0) ∧ (n' ≤ 1001 ∧ one b n = (n' : Int)) := by
          refine ⟨_, rfl, ?_, ?_⟩
          · split <;> omega
          · unfold one; split <;> omega
        rw [← hn'] at hq2
        rw [hn2.2] at hstep
        have hn'1 := hn2.1
        have HQ2 := Lib.hid hq2
        have ST := Lib.hid hstep
        clear hstep e1 e2 e3 hq2 hbl hn' hn2 hrd1
        by_cases hsn : s < (n' : Int)
        · have hd : decide (s < (n' : Int)) = true := decide_eq_true hsn
          rw [hd] at ST
          go_wp2_with fail
          refine ST.out.mono ?_
          rintro e w4 ⟨v, rfl, o4, _, F4, fr4⟩
          obtain ⟨Av, cv, rfl, rv, _⟩ := own_bool1 o4
          obtain ⟨vd, rfl, hcell⟩ := rv.bool (j := 0) (by simp)
          have hcell' : w4.cell? vd = some (.bool true) := by simpa [Addr.add] using hcell
          have fr4' : Fr No w w4 := fr3.trans fr4 (fun i hi => .inr (by omega))
          clear o4 rv hcell fr4 F3 hc
          go_wp2
          go_loopg [8] 257 (fun k i wr => ∃ (m : Nat), m + k = 257 ∧ (m : Int) ≤ s + 1 ∧ i = .int .i64 m ∧ wr = w4)
          case atStart => exact ⟨0, by omega, by omega, rfl, rfl⟩
          case round =>
            obtain ⟨m, hm1, hm2, rfl, rfl⟩ := hrel
            by_cases hms : (m : Int) ≤ s
            · have hmn : m < n' := by omega
              obtain ⟨hqa, hqb⟩ := HQ2.out
              have hqm := hqb m hmn
              rw [show j + 1 - 1 - m = j - m by omega] at hqm
              obtain ⟨_, b2, e5, hc2, hb2⟩ := (HR.out.no fr4').byte' (j := j - m) (by omega)
              cases e5
              have hb20 : b2 = 0 := by
                rw [← hqm, ← hb2.out, List.getD_eq_getElem?_getD, List.getD_eq_getElem?_getD, List.getElem?_eq_getElem (by omega)]
                rfl
              rw [hb20] at hc2
              have hc2' : wr.cell? (ad.add (j - m)) = some (.int .u8 0) := hc2
              have hjm : m ≤ j := by omega
              clear hqb hqm hb2 hb20 hc2
              go_wp2
              go_roundg (257 - (m + 1))
              case measure => omega
              case rel => exact ⟨m + 1, by omega, by omega, by go_num, rfl⟩
            · clear hm1
              go_wp2
              go_roundg (l.length - (j + 1))
              case measure => omega
              case rel => exact ⟨j + 1, n', by omega, by go_num, hn'1, HQ2, F4, fr4'⟩
        · have hd : decide (s < (n' : Int)) = false := decide_eq_false hsn
          rw [hd] at ST
          go_wp2_with fail
          refine ST.out.mono ?_
          rintro e w4 ⟨v, rfl, o4, _, F4, fr4⟩
          obtain ⟨Av, cv, rfl, rv, _⟩ := own_bool1 o4
          obtain ⟨vd, rfl, hcell⟩ := rv.bool (j := 0) (by simp)
          have hcell' : w4.cell? vd = some (.bool false) := by simpa [Addr.add] using hcell
          have fr4' : Fr No w w4 := fr3.trans fr4 (fun i hi => .inr (by omega))
          clear o4 rv hcell fr4 F3 hc
          go_wp2
          go_loopg [8] 0 (fun _ i wr => i = .int .i64 0 ∧ wr = w4)
          case atStart => exact ⟨rfl, rfl⟩
          case round =>
            obtain ⟨rfl, rfl⟩ := hrel
            go_wp2
            go_roundg (l.length - (j + 1))
            case measure => omega
            case rel => exact ⟨j + 1, n', by omega, by go_num, hn'1, HQ2, F4, fr4'⟩
      · go_wp2
        go_ret
        exact ⟨rfl, fr3⟩
end Go.Proofs.Ytpbkbkbifidbpaa
