import Derived.Test.YtmfdehbbkeplaaaPlacesLW
namespace Go.Proofs.Ytmfdehbbkeplaaa
open Go.RowKit Go Fl Ieee
attribute [local go_sem] bits_run frombits_run

theorem tmod5 (x : Int) : (x.tmod 5000).natAbs ≤ 4999 := by
  rw [Int.natAbs_tmod]
  have := Nat.mod_lt x.natAbs (show 0 < (5000 : Int).natAbs by decide)
  have e : (5000 : Int).natAbs = 5000 := rfl
  omega

theorem fits_self (x y n : Int) : fits x y x y n = false := by unfold fits; simp
theorem fits_comm (x y u v n : Int) : fits x y u v n = fits u v x y n := by
  unfold fits
  rw [show (u - x) * (u - x) + (v - y) * (v - y) = (x - u) * (x - u) + (y - v) * (y - v) by grind]
  rw [decide_eq_decide]
  constructor <;> (rintro ⟨h1, h2⟩; exact ⟨fun h => h1 ⟨h.1.symm, h.2.symm⟩, h2⟩)
theorem fits_short (x y u v k : Int) (h : (k - 1) * (k - 1) < (u - x) * (u - x) + (v - y) * (v - y)) : fits x y u v (k - 1) = false := by
  unfold fits
  rw [decide_eq_false_iff_not]
  rintro ⟨_, _, _, h4⟩
  omega

theorem faddI {a : Nat} {x y : Int} (ha : IsI a x) (bx : x.natAbs ≤ 1000000) (by' : y.natAbs ≤ 4999) :
    ∃ r, (∀ w, (binOp .add 24 (.float .f64 a) (.float .f64 (F y))).run Try.prog w = .ok (.float .f64 r) w) ∧ IsI r (x + y) := by
  obtain ⟨r, h, hi⟩ := addI ha (isF y) (by omega) (by omega) (by omega)
  exact ⟨r, fun w => run_float_arith w .add _ _ _ _ _ h, hi⟩

theorem sq_nonneg (x : Int) : 0 ≤ x * x := by
  rcases Int.le_total 0 x with h | h
  · exact Int.mul_nonneg h h
  · exact Int.mul_nonneg_of_nonpos_of_nonpos h h

set_option maxRecDepth 100000 in
set_option maxHeartbeats 1000000 in
theorem planeFits_any (a b c d n : Int) (hn : -9223372036854775808 ≤ n ∧ n ≤ 9223372036854775807) (w : World) :
    Calls Try.prog 7 #[.int .i32 a, .int .i32 b, .int .i32 c, .int .i32 d, .int .i64 n] w fun r w' => r = .returned (.bool true) ∧ ∃ n, w' = w.drewN n := by
  have P1 := Lib.hid (fun w => place_any a b w)
  have P2 := Lib.hid (fun w => place_any c d w)
  have ba := tmod_bd a
  have bb := tmod_bd b
  have bc := tmod_bd c
  have bd := tmod_bd d
  generalize a.tmod 1000001 = ua at *
  generalize b.tmod 1000001 = ub at *
  generalize c.tmod 1000001 = va at *
  generalize d.tmod 1000001 = vb at *
  have F1 := Lib.hid (fits_any (isF ua) (isF ub) (isF va) (isF vb) (by omega) (by omega) (by omega) (by omega) n hn)
  have F2 := Lib.hid (rfits_any (isF ua) (isF ub) (isF va) (isF vb) (by omega) (by omega) (by omega) (by omega) n hn)
  have f3 := fits_any (isF ua) (isF ub) (isF ua) (isF ub) (by omega) (by omega) (by omega) (by omega) n hn
  rw [fits_self] at f3
  have F3 := Lib.hid f3
  clear f3
  have b5 := tmod5 c
  have b6 := tmod5 d
  obtain ⟨dx, hdx⟩ : ∃ z, c.tmod 5000 = z := ⟨_, rfl⟩
  obtain ⟨dy, hdy⟩ : ∃ z, d.tmod 5000 = z := ⟨_, rfl⟩
  rw [hdx] at b5
  rw [hdy] at b6
  have ex : floatOfInt .f64 (c.tmod 5000) = F dx := by rw [hdx]; exact nearest_F _ (by omega)
  have ey : floatOfInt .f64 (d.tmod 5000) = F dy := by rw [hdy]; exact nearest_F _ (by omega)
  clear hdx hdy
  obtain ⟨nx, hx, ix⟩ := faddI (isF ua) ba b5
  obtain ⟨ny, hy, iy⟩ := faddI (isF ub) bb b6
  have pl := place_test nx ny (isI_lt ix (by omega)) (isI_lt iy (by omega))
  rw [wholeB_int ix (by omega), wholeB_int iy (by omega)] at pl
  have o1 := ord_eq ix (isF ua) (by omega) (by omega)
  have o2 := ord_eq iy (isF ub) (by omega) (by omega)
  obtain ⟨q1, q2, hq, iq1, iq2⟩ := csub_run ix iy (isF ua) (isF ub) (by omega) (by omega) (by omega) (by omega)
  have RD := Lib.hid (rdot_any iq1 iq2 iq1 iq2 (by omega) (by omega) (by omega) (by omega))
  have G1 := Lib.hid (fun k hk => fits_any (isF ua) (isF ub) ix iy (by omega) (by omega) (by omega) (by omega) k hk)
  have G2 := Lib.hid (fun k hk => rfits_any (isF ua) (isF ub) ix iy (by omega) (by omega) (by omega) (by omega) k hk)
  have G3 := Lib.hid (fun k hk => fits_any ix iy (isF ua) (isF ub) (by omega) (by omega) (by omega) (by omega) k hk)
  have e9 : ((ua + dx - ua) * (ua + dx - ua) + (ub + dy - ub) * (ub + dy - ub)) = dx * dx + dy * dy := by
    rw [show ua + dx - ua = dx by omega, show ub + dy - ub = dy by omega]
  have z1 := sq_nonneg dx
  have z2 := sq_nonneg dy
  have m1 := mul_bd (x := dx) (y := dx) b5 b5
  have m2 := mul_bd (x := dy) (y := dy) b6 b6
  by_cases hp : (ua + dx).natAbs ≤ 1000000 ∧ (ub + dy).natAbs ≤ 1000000
  · rw [decide_eq_true hp.1, decide_eq_true hp.2] at pl
    have PL := Lib.hid pl
    clear pl
    by_cases h0 : dx = 0 ∧ dy = 0
    · have o3 : (FloatKind.f64.format.order nx (F ua) == some Ordering.eq && FloatKind.f64.format.order ny (F ub) == some Ordering.eq) = true := by
        rw [o1, o2]; simp; omega
      clear o1 o2 ix iy iq1 iq2 e9 z1 z2 m1 m2 h0 hp
      go_enter Try.func7, Try.ntmps7
      go_wp2_with fail
      refine (P1.out _).mono ?_
      rintro r w' ⟨rfl, rfl⟩
      go_wp2_with fail
      refine (P2.out _).mono ?_
      rintro r w' ⟨rfl, rfl⟩
      go_wp2_with fail
      refine (left_any _).mono ?_
      rintro r w' ⟨rfl, rfl⟩
      go_wp2_with fail
      refine (F1.out _).mono ?_
      rintro r w' ⟨rfl, rfl⟩
      go_wp2_with fail
      refine (F2.out _).mono ?_
      rintro r w' ⟨rfl, rfl⟩
      go_wp2_with fail
      refine (F3.out _).mono ?_
      rintro r w' ⟨rfl, rfl⟩
      go_wp2_with fail
      refine (PL.out _).mono ?_
      rintro r w' ⟨rfl, n1, rfl⟩
      go_wp2
      go_ret
      exact ⟨rfl, n1, rfl⟩
    · have o3 : (FloatKind.f64.format.order nx (F ua) == some Ordering.eq && FloatKind.f64.format.order ny (F ub) == some Ordering.eq) = false := by
        rw [o1, o2]; simp; omega
      have hD : 0 < dx * dx + dy * dy := by
        rcases (by omega : dx ≠ 0 ∨ dy ≠ 0) with h | h
        · have := Int.mul_ne_zero h h; omega
        · have := Int.mul_ne_zero h h; omega
      rw [e9] at RD
      generalize hDD : dx * dx + dy * dy = D at *
      have E9 := Lib.hid e9
      have HDD := Lib.hid hDD
      have HD : D ≤ 50000000 := by omega
      clear o1 o2 ix iy iq1 iq2 e9 z1 z2 m1 m2 h0 hp hDD
      go_enter Try.func7, Try.ntmps7
      go_wp2_with fail
      refine (P1.out _).mono ?_
      rintro r w' ⟨rfl, rfl⟩
      go_wp2_with fail
      refine (P2.out _).mono ?_
      rintro r w' ⟨rfl, rfl⟩
      go_wp2_with fail
      refine (left_any _).mono ?_
      rintro r w' ⟨rfl, rfl⟩
      go_wp2_with fail
      refine (F1.out _).mono ?_
      rintro r w' ⟨rfl, rfl⟩
      go_wp2_with fail
      refine (F2.out _).mono ?_
      rintro r w' ⟨rfl, rfl⟩
      go_wp2_with fail
      refine (F3.out _).mono ?_
      rintro r w' ⟨rfl, rfl⟩
      go_wp2_with fail
      refine (PL.out _).mono ?_
      rintro r w' ⟨rfl, n1, rfl⟩
      go_wp2
      go_loopg [14] 10000 (fun g t wr => ∃ k : Nat, 1 ≤ k ∧ k + g = 10001 ∧ t = .int .i64 k ∧ Hid (((k : Int) - 1) * ((k : Int) - 1) < D) ∧ wr = w.drewN n1)
      case atStart => exact ⟨1, by omega, by omega, rfl, by show (((1 : Nat) : Int) - 1) * (((1 : Nat) : Int) - 1) < D; simpa using hD, rfl⟩
      case round =>
        obtain ⟨k, hk1, hk2, rfl, hkD, rfl⟩ := hrel
        have mk := mul_bd (x := (k : Int)) (y := (k : Int)) (m := 10001) (n := 10001) (by omega) (by omega)
        by_cases hk3 : k < 10000
        · by_cases hk4 : (k : Int) * k < D
          · go_wp2_with fail
            refine (RD.out _).mono ?_
            rintro r w' ⟨rfl, rfl⟩
            go_wp2
            go_roundg (10000 - k)
            case rel => exact ⟨k + 1, by omega, by omega, by go_num, by show (((k + 1 : Nat) : Int) - 1) * (((k + 1 : Nat) : Int) - 1) < D; rw [show ((k + 1 : Nat) : Int) - 1 = k by omega]; exact hk4, rfl⟩
            case measure => omega
          · go_wp2_with fail
            refine (RD.out _).mono ?_
            rintro r w' ⟨rfl, rfl⟩
            go_wp2_with fail
            refine (G1.out _ (by omega) _).mono ?_
            rintro r w' ⟨rfl, rfl⟩
            go_wp2_with fail
            refine (G2.out _ (by omega) _).mono ?_
            rintro r w' ⟨rfl, rfl⟩
            have gs := G1.out ((k : Int) - 1) (by omega)
            rw [fits_short _ _ _ _ _ (by rw [E9.out]; exact hkD)] at gs
            have GS := Lib.hid gs
            clear gs
            go_wp2_with fail
            refine (GS.out _).mono ?_
            rintro r w' ⟨rfl, rfl⟩
            have g3 := G3.out (k : Int) (by omega)
            rw [fits_comm] at g3
            have GS3 := Lib.hid g3
            clear g3
            go_wp2_with fail
            refine (GS3.out _).mono ?_
            rintro r w' ⟨rfl, rfl⟩
            go_wp2_with fail
            refine (G1.out _ (by omega) _).mono ?_
            rintro r w' ⟨rfl, rfl⟩
            go_wp2
            go_ret
            exact ⟨rfl, n1, rfl⟩
        · exfalso
          have := hkD.out
          rcases (by omega : k = 10000 ∨ k = 10001) with h1 | h1
          · subst h1
            omega
          · subst h1
            omega
  · have hp2 : (decide ((ua + dx).natAbs ≤ 1000000) && decide ((ub + dy).natAbs ≤ 1000000)) = false := by
      rw [Bool.and_eq_false_iff, decide_eq_false_iff_not, decide_eq_false_iff_not]; omega
    rw [hp2] at pl
    have PL := Lib.hid pl
    clear pl o1 o2 ix iy iq1 iq2 e9 z1 z2 m1 m2 hp hp2
    go_enter Try.func7, Try.ntmps7
    go_wp2_with fail
    refine (P1.out _).mono ?_
    rintro r w' ⟨rfl, rfl⟩
    go_wp2_with fail
    refine (P2.out _).mono ?_
    rintro r w' ⟨rfl, rfl⟩
    go_wp2_with fail
    refine (left_any _).mono ?_
    rintro r w' ⟨rfl, rfl⟩
    go_wp2_with fail
    refine (F1.out _).mono ?_
    rintro r w' ⟨rfl, rfl⟩
    go_wp2_with fail
    refine (F2.out _).mono ?_
    rintro r w' ⟨rfl, rfl⟩
    go_wp2_with fail
    refine (F3.out _).mono ?_
    rintro r w' ⟨rfl, rfl⟩
    go_wp2_with fail
    refine (PL.out _).mono ?_
    rintro r w' ⟨rfl, n1, rfl⟩
    go_wp2
    go_ret
    exact ⟨rfl, n1, rfl⟩

end Go.Proofs.Ytmfdehbbkeplaaa
