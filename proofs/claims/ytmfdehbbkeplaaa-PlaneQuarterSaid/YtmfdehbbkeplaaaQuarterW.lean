import Derived.Test.YtmfdehbbkeplaaaLaws
namespace Go.Proofs.Ytmfdehbbkeplaaa
open Go.RowKit Go Fl
attribute [local go_sem] run_neg_float


set_option maxHeartbeats 1000000 in
theorem planeQuarter_any (a b c d e f : Int) (w : World) :
    Calls Try.prog 5 #[.int .i32 a, .int .i32 b, .int .i32 c, .int .i32 d, .int .i32 e, .int .i32 f] w fun r w' => r = .returned (.bool true) ∧ w = w' := by
  have P1 := Lib.hid (fun w => place_any a b w)
  have P2 := Lib.hid (fun w => place_any c d w)
  have P3 := Lib.hid (fun w => place_any e f w)
  have ba := tmod_bd a
  have bb := tmod_bd b
  have bc := tmod_bd c
  have bd := tmod_bd d
  have be := tmod_bd e
  have bf := tmod_bd f
  generalize a.tmod 1000001 = ua at *
  generalize b.tmod 1000001 = ub at *
  generalize c.tmod 1000001 = va at *
  generalize d.tmod 1000001 = vb at *
  generalize e.tmod 1000001 = wa at *
  generalize f.tmod 1000001 = wb at *
  have nb := negI (isF ub) (by omega)
  have nd := negI (isF vb) (by omega)
  have nf := negI (isF wb) (by omega)
  obtain ⟨p1, p2, hp, ip1, ip2⟩ := csub_run (isF va) (isF vb) (isF ua) (isF ub) (by omega) (by omega) (by omega) (by omega)
  obtain ⟨q1, q2, hq, iq1, iq2⟩ := csub_run (isF wa) (isF wb) (isF va) (isF vb) (by omega) (by omega) (by omega) (by omega)
  obtain ⟨r1, r2, hr, ir1, ir2⟩ := csub_run nd (isF va) nb (isF ua) (by omega) (by omega) (by omega) (by omega)
  obtain ⟨s1, s2, hs, is1, is2⟩ := csub_run nf (isF wa) nd (isF va) (by omega) (by omega) (by omega) (by omega)
  obtain ⟨t1, ht, it1⟩ := subI (isF ua) (isF va) (by omega) (by omega) (by omega)
  obtain ⟨t2, hu, it2⟩ := subI (isF ub) (isF vb) (by omega) (by omega) (by omega)
  have ht' : ∀ w, (binOp .sub 24 (.float .f64 (F ua)) (.float .f64 (F va))).run Try.prog w = .ok (.float .f64 t1) w := fun w => run_float_arith w .sub _ _ _ _ _ ht
  have hu' : ∀ w, (binOp .sub 24 (.float .f64 (F ub)) (.float .f64 (F vb))).run Try.prog w = .ok (.float .f64 t2) w := fun w => run_float_arith w .sub _ _ _ _ _ hu
  have D1 := dot_any ip1 ip2 iq1 iq2 (by omega) (by omega) (by omega) (by omega)
  have D2 := dot_any ir1 ir2 is1 is2 (by omega) (by omega) (by omega) (by omega)
  have T1 := turn_any (isF ua) (isF ub) (isF va) (isF vb) (isF wa) (isF wb) ba bb bc bd be bf
  have T2 := turn_any nb (isF ua) nd (isF va) nf (isF wa) (by omega) ba (by omega) bc (by omega) be
  have A1 := ahead_any (isF ua) (isF ub) (isF va) (isF vb) (isF wa) (isF wb) ba bb bc bd be bf
  have A2 := ahead_any nb (isF ua) nd (isF va) nf (isF wa) (by omega) ba (by omega) bc (by omega) be
  have D3 := dot_any ip1 ip2 it1 it2 (by omega) (by omega) (by omega) (by omega)
  have S1 := square_any ip1 ip2 (by omega) (by omega)
  have S2 := square_any ir1 ir2 (by omega) (by omega)
  rw [show (-vb - -ub) * (-wb - -vb) + (va - ua) * (wa - va) = (va - ua) * (wa - va) + (vb - ub) * (wb - vb) by grind] at D2 A2
  rw [show (-vb - -ub) * (wa - va) - (va - ua) * (-wb - -vb) = (va - ua) * (wb - vb) - (vb - ub) * (wa - va) by grind] at T2
  rw [show (-vb - -ub) * (-vb - -ub) + (va - ua) * (va - ua) = (va - ua) * (va - ua) + (vb - ub) * (vb - ub) by grind] at S2
  rw [show (va - ua) * (ua - va) + (vb - ub) * (ub - vb) = -((va - ua) * (va - ua) + (vb - ub) * (vb - ub)) by grind] at D3
  have m1 := mul_bd (x := va - ua) (y := wb - vb) (m := 2000000) (n := 2000000) (by omega) (by omega)
  have m2 := mul_bd (x := vb - ub) (y := wa - va) (m := 2000000) (n := 2000000) (by omega) (by omega)
  have m3 := mul_bd (x := va - ua) (y := wa - va) (m := 2000000) (n := 2000000) (by omega) (by omega)
  have m4 := mul_bd (x := vb - ub) (y := wb - vb) (m := 2000000) (n := 2000000) (by omega) (by omega)
  have m5 := mul_bd (x := va - ua) (y := va - ua) (m := 2000000) (n := 2000000) (by omega) (by omega)
  have m6 := mul_bd (x := vb - ub) (y := vb - ub) (m := 2000000) (n := 2000000) (by omega) (by omega)
  have z1 : 0 ≤ (va - ua) * (va - ua) := by
    rcases Int.le_total 0 (va - ua) with h | h
    · exact Int.mul_nonneg h h
    · exact Int.mul_nonneg_of_nonpos_of_nonpos h h
  have z2 : 0 ≤ (vb - ub) * (vb - ub) := by
    rcases Int.le_total 0 (vb - ub) with h | h
    · exact Int.mul_nonneg h h
    · exact Int.mul_nonneg_of_nonpos_of_nonpos h h
  have bX : ((va - ua) * (wa - va) + (vb - ub) * (wb - vb)).natAbs < 2 ^ 53 := by omega
  have bZ : ((va - ua) * (va - ua) + (vb - ub) * (vb - ub)).natAbs < 2 ^ 53 := by omega
  have zZ : 0 ≤ (va - ua) * (va - ua) + (vb - ub) * (vb - ub) := by omega
  generalize (va - ua) * (wa - va) + (vb - ub) * (wb - vb) = X at *
  generalize (va - ua) * (wb - vb) - (vb - ub) * (wa - va) = Y at *
  generalize (va - ua) * (va - ua) + (vb - ub) * (vb - ub) = Z at *
  have f5 : (FloatKind.f64.format.order (F X) (F X) == some Ordering.eq) = true := by rw [ord_eq (isF X) (isF X) bX bX]; simp
  have f6 : (FloatKind.f64.format.order (F Z) (F Z) == some Ordering.eq) = true := by rw [ord_eq (isF Z) (isF Z) bZ bZ]; simp
  have f7 : ((FloatKind.f64.format.order (F (-Z)) 0 == some Ordering.lt) || (FloatKind.f64.format.order (F (-Z)) 0 == some Ordering.eq)) = true := by
    rw [ord_eq (isF (-Z)) isF0 (by omega) (by decide), ord_lt (isF (-Z)) isF0 (by omega) (by decide)]
    simp
    omega
  have D1' := Lib.hid D1
  have D2' := Lib.hid D2
  have T1' := Lib.hid T1
  have T2' := Lib.hid T2
  have A1' := Lib.hid A1
  have A2' := Lib.hid A2
  have D3' := Lib.hid D3
  have S1' := Lib.hid S1
  have S2' := Lib.hid S2
  clear D1 D2 D3 S1 S2 T1 T2 A1 A2 ip1 ip2 iq1 iq2 ir1 ir2 is1 is2 it1 it2 ht hu nb nd nf m1 m2 m3 m4 m5 m6 z1 z2 bX bZ zZ
  go_enter Try.func5, Try.ntmps5
  go_wp2_with fail
  refine (P1.out _).mono ?_
  rintro r w' ⟨rfl, rfl⟩
  go_wp2_with fail
  refine (P2.out _).mono ?_
  rintro r w' ⟨rfl, rfl⟩
  go_wp2_with fail
  refine (P3.out _).mono ?_
  rintro r w' ⟨rfl, rfl⟩
  go_wp2_with fail
  refine (left_any _).mono ?_
  rintro r w' ⟨rfl, rfl⟩
  go_wp2_with fail
  refine (D1'.out _).mono ?_
  rintro r w' ⟨rfl, rfl⟩
  go_wp2_with fail
  refine (D2'.out _).mono ?_
  rintro r w' ⟨rfl, rfl⟩
  go_wp2_with fail
  refine (T1'.out _).mono ?_
  rintro r w' ⟨rfl, rfl⟩
  go_wp2_with fail
  refine (T2'.out _).mono ?_
  rintro r w' ⟨rfl, rfl⟩
  go_wp2_with fail
  refine (A1'.out _).mono ?_
  rintro r w' ⟨rfl, rfl⟩
  go_wp2_with fail
  refine (A2'.out _).mono ?_
  rintro r w' ⟨rfl, rfl⟩
  go_wp2_with fail
  refine (D3'.out _).mono ?_
  rintro r w' ⟨rfl, rfl⟩
  go_wp2_with fail
  refine (S1'.out _).mono ?_
  rintro r w' ⟨rfl, rfl⟩
  go_wp2_with fail
  refine (S2'.out _).mono ?_
  rintro r w' ⟨rfl, rfl⟩
  go_wp2
  go_ret
  exact ⟨rfl, rfl⟩
end Go.Proofs.Ytmfdehbbkeplaaa
