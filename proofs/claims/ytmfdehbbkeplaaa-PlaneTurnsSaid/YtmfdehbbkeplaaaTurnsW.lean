import Derived.Test.YtmfdehbbkeplaaaLaws
namespace Go.Proofs.Ytmfdehbbkeplaaa
open Go.RowKit Go Fl

theorem sgn_neg (x : Int) : sgn (-x) = -sgn x := by unfold sgn; (repeat' split) <;> omega

theorem planeTurns_any (a b c d e f : Int) (w : World) :
    Calls Try.prog 4 #[.int .i32 a, .int .i32 b, .int .i32 c, .int .i32 d, .int .i32 e, .int .i32 f] w fun r w' => r = .returned (.bool true) ∧ w = w' := by
  have P1 := Lib.hid (fun w => place_any a b w)
  have P2 := Lib.hid (fun w => place_any c d w)
  have P3 := Lib.hid (fun w => place_any e f w)
  have ba := tmod_bd a
  have bb := tmod_bd b
  have bc := tmod_bd c
  have bd := tmod_bd d
  have be := tmod_bd e
  have bf := tmod_bd f
  generalize a.tmod 1000001 = ua at *
  generalize b.tmod 1000001 = ub at *
  generalize c.tmod 1000001 = va at *
  generalize d.tmod 1000001 = vb at *
  generalize e.tmod 1000001 = wa at *
  generalize f.tmod 1000001 = wb at *
  obtain ⟨p1, p2, hp, ip1, ip2⟩ := csub_run (isF va) (isF vb) (isF ua) (isF ub) (by omega) (by omega) (by omega) (by omega)
  obtain ⟨q1, q2, hq, iq1, iq2⟩ := csub_run (isF wa) (isF wb) (isF va) (isF vb) (by omega) (by omega) (by omega) (by omega)
  have RC := rcross_any ip1 ip2 iq1 iq2 (by omega) (by omega) (by omega) (by omega)
  have RD := rdot_any ip1 ip2 iq1 iq2 (by omega) (by omega) (by omega) (by omega)
  have T1 := turn_any (isF ua) (isF ub) (isF va) (isF vb) (isF wa) (isF wb) ba bb bc bd be bf
  have T2 := turn_any (isF wa) (isF wb) (isF va) (isF vb) (isF ua) (isF ub) be bf bc bd ba bb
  have A1 := ahead_any (isF ua) (isF ub) (isF va) (isF vb) (isF wa) (isF wb) ba bb bc bd be bf
  have A2 := ahead_any (isF wa) (isF wb) (isF va) (isF vb) (isF ua) (isF ub) be bf bc bd ba bb
  rw [show (va - wa) * (ub - vb) - (vb - wb) * (ua - va) = -((va - ua) * (wb - vb) - (vb - ub) * (wa - va)) by grind, sgn_neg] at T2
  rw [show (va - wa) * (ua - va) + (vb - wb) * (ub - vb) = (va - ua) * (wa - va) + (vb - ub) * (wb - vb) by grind] at A2
  generalize (va - ua) * (wb - vb) - (vb - ub) * (wa - va) = X at *
  generalize (va - ua) * (wa - va) + (vb - ub) * (wb - vb) = Y at *
  have RC' := Lib.hid RC
  have RD' := Lib.hid RD
  have T1' := Lib.hid T1
  have T2' := Lib.hid T2
  have A1' := Lib.hid A1
  have A2' := Lib.hid A2
  clear RC RD T1 T2 A1 A2 ip1 ip2 iq1 iq2
  have hs : (X < 0 ∧ sgn X = -1) ∨ (X = 0 ∧ sgn X = 0) ∨ (0 < X ∧ sgn X = 1) := by unfold sgn; (repeat' split) <;> omega
  have go : ∀ s t : Int, sgn X = s → -sgn X = t → (X < 0 ∧ s = -1 ∧ t = 1 ∨ (X ≤ 0 ∧ 0 ≤ X) ∧ s = 0 ∧ t = 0 ∨ 0 < X ∧ s = 1 ∧ t = -1) →
      Calls Try.prog 4 #[.int .i32 a, .int .i32 b, .int .i32 c, .int .i32 d, .int .i32 e, .int .i32 f] w fun r w' => r = .returned (.bool true) ∧ w = w' := by
    intro s t hs0 hs2 hs1
    have t1 := T1'.out
    have t2 := T2'.out
    rw [hs2] at t2
    rw [hs0] at t1
    have T1'' := Lib.hid t1
    have T2'' := Lib.hid t2
    clear hs0 hs2 hs t1 t2 T1' T2'
    rcases hs1 with ⟨h, rfl, rfl⟩ | ⟨⟨h, h'⟩, rfl, rfl⟩ | ⟨h, rfl, rfl⟩
    all_goals
      go_enter Try.func4, Try.ntmps4
      go_wp2_with fail
      refine (P1.out _).mono ?_
      rintro r w' ⟨rfl, rfl⟩
      go_wp2_with fail
      refine (P2.out _).mono ?_
      rintro r w' ⟨rfl, rfl⟩
      go_wp2_with fail
      refine (P3.out _).mono ?_
      rintro r w' ⟨rfl, rfl⟩
      go_wp2_with fail
      refine (RC'.out _).mono ?_
      rintro r w' ⟨rfl, rfl⟩
      go_wp2_with fail
      refine (RD'.out _).mono ?_
      rintro r w' ⟨rfl, rfl⟩
      go_wp2_with fail
      refine (left_any _).mono ?_
      rintro r w' ⟨rfl, rfl⟩
      go_wp2_with fail
      refine (T1''.out _).mono ?_
      rintro r w' ⟨rfl, rfl⟩
      go_wp2_with fail
      refine (T2''.out _).mono ?_
      rintro r w' ⟨rfl, rfl⟩
      go_wp2_with fail
      refine (A1'.out _).mono ?_
      rintro r w' ⟨rfl, rfl⟩
      go_wp2_with fail
      refine (A2'.out _).mono ?_
      rintro r w' ⟨rfl, rfl⟩
      go_wp2
      go_ret
      exact ⟨rfl, rfl⟩
  exact go _ _ rfl rfl (by omega)
end Go.Proofs.Ytmfdehbbkeplaaa
