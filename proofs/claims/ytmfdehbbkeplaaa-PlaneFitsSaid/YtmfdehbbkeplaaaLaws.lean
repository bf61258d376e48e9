import Derived.Test.YtmfdehbbkeplaaaWalk
namespace Go.Proofs.Ytmfdehbbkeplaaa
open Go.RowKit Go Fl

theorem run_imag' (ts : Array TypeId) (t : TypeId) (k : FloatKind) (a b : Nat) (P : Program) (w : World) : (Builtin.imag_ ts t #[.complex k a b]).run P w = .ok (.float k b) w := rfl
attribute [local go_sem] run_neg_float

theorem bits_run (b : Nat) (w : World) : (callFunc 15 #[.float .f64 b]).run Try.prog w = .ok (.value (.int .u64 b)) w := by
  rw [run_callFunc_extern (e := Extern.MathFloatBits.float64bits) Try.func15 (by kernel_rfl) (by kernel_rfl) (by kernel_rfl) (by kernel_rfl)]
  rfl

theorem frombits_run (b : Nat) (w : World) : (callFunc 18 #[.int .u64 b]).run Try.prog w = .ok (.value (.float .f64 b)) w := by
  rw [run_callFunc_extern (e := Extern.MathFloatBits.float64frombits) Try.func18 (by kernel_rfl) (by kernel_rfl) (by kernel_rfl) (by kernel_rfl)]
  rfl
attribute [local go_sem] bits_run frombits_run

theorem conv_run {b : Nat} {n : Int} (h : IsI b n) (hn : n.natAbs < 2 ^ 53) (w : World) : (convert 24 2 (.float .f64 b)).run Try.prog w = .ok (.int .i64 n) w :=
  run_convert_float_int w _ _ _ _ _ _ (by rw [Try.underlying24]; rfl) Try.underlying2 (toIntI h hn)

theorem planeProducts_any (a b c d : Int) (w : World) :
    Calls Try.prog 3 #[.int .i32 a, .int .i32 b, .int .i32 c, .int .i32 d] w fun r w' => r = .returned (.bool true) ∧ w = w' := by
  have P1 := Lib.hid (fun w => place_any a b w)
  have P2 := Lib.hid (fun w => place_any c d w)
  have ba := tmod_bd a
  have bb := tmod_bd b
  have bc := tmod_bd c
  have bd := tmod_bd d
  generalize a.tmod 1000001 = ua at *
  generalize b.tmod 1000001 = ub at *
  generalize c.tmod 1000001 = va at *
  generalize d.tmod 1000001 = vb at *
  obtain ⟨p1, p2, hp, ip1, ip2⟩ := csub_run (isF va) (isF vb) (isF ua) (isF ub) (by omega) (by omega) (by omega) (by omega)
  have D1 := dot_any (isF ua) (isF ub) ip1 ip2 (by omega) (by omega) (by omega) (by omega)
  have C1 := cross_any (isF ua) (isF ub) ip1 ip2 (by omega) (by omega) (by omega) (by omega)
  have RD1 := rdot_any (isF ua) (isF ub) ip1 ip2 (by omega) (by omega) (by omega) (by omega)
  have RC1 := rcross_any (isF ua) (isF ub) ip1 ip2 (by omega) (by omega) (by omega) (by omega)
  have C2 := cross_any ip1 ip2 (isF ua) (isF ub) (by omega) (by omega) (by omega) (by omega)
  have D2 := dot_any ip1 ip2 (isF ua) (isF ub) (by omega) (by omega) (by omega) (by omega)
  have S1 := square_any ip1 ip2 (by omega) (by omega)
  have RD2 := rdot_any ip1 ip2 ip1 ip2 (by omega) (by omega) (by omega) (by omega)
  have C3 := cross_any (isF ua) (isF ub) (isF ua) (isF ub) (by omega) (by omega) (by omega) (by omega)
  have D3 := dot_any (isF ua) (isF ub) (negI (isF ub) (by omega)) (isF ua) (by omega) (by omega) (by omega) (by omega)
  rw [show (va - ua) * ub - (vb - ub) * ua = -(ua * (vb - ub) - ub * (va - ua)) by rw [Int.mul_comm (va - ua), Int.mul_comm (vb - ub)]; omega] at C2
  rw [show (va - ua) * ua + (vb - ub) * ub = ua * (va - ua) + ub * (vb - ub) by rw [Int.mul_comm (va - ua), Int.mul_comm (vb - ub)]] at D2
  rw [show ua * ub - ub * ua = 0 by rw [Int.mul_comm]; omega, show F 0 = 0 by decide] at C3
  rw [show ua * -ub + ub * ua = 0 by rw [Int.mul_neg, Int.mul_comm ub]; omega, show F 0 = 0 by decide] at D3
  have m1 := mul_bd (x := ua) (y := va - ua) (m := 1000000) (n := 2000000) (by omega) (by omega)
  have m2 := mul_bd (x := ub) (y := vb - ub) (m := 1000000) (n := 2000000) (by omega) (by omega)
  have m3 := mul_bd (x := ua) (y := vb - ub) (m := 1000000) (n := 2000000) (by omega) (by omega)
  have m4 := mul_bd (x := ub) (y := va - ua) (m := 1000000) (n := 2000000) (by omega) (by omega)
  have m5 := mul_bd (x := va - ua) (y := va - ua) (m := 2000000) (n := 2000000) (by omega) (by omega)
  have m6 := mul_bd (x := vb - ub) (y := vb - ub) (m := 2000000) (n := 2000000) (by omega) (by omega)
  have bX : (ua * (va - ua) + ub * (vb - ub)).natAbs < 2 ^ 53 := by omega
  have bY : (ua * (vb - ub) - ub * (va - ua)).natAbs < 2 ^ 53 := by omega
  have bZ : ((va - ua) * (va - ua) + (vb - ub) * (vb - ub)).natAbs < 2 ^ 53 := by omega
  generalize ua * (va - ua) + ub * (vb - ub) = X at *
  generalize ua * (vb - ub) - ub * (va - ua) = Y at *
  generalize (va - ua) * (va - ua) + (vb - ub) * (vb - ub) = Z at *
  have f1 := fun w => conv_run (isF X) bX w
  have f2 := fun w => conv_run (isF Y) bY w
  have f3 : floatOfInt .f64 Z = F Z := nearest_F _ bZ
  have f4 : (FloatKind.f64.format.order (F (-Y)) (Op.negFloat .f64 (F Y)) == some Ordering.eq) = true := by rw [ord_eq (isF (-Y)) (negI (isF Y) bY) (by omega) (by omega)]; simp
  have f5 : (FloatKind.f64.format.order (F X) (F X) == some Ordering.eq) = true := by rw [ord_eq (isF X) (isF X) bX bX]; simp
  have f6 : (FloatKind.f64.format.order (F Z) (F Z) == some Ordering.eq) = true := by rw [ord_eq (isF Z) (isF Z) bZ bZ]; simp
  have D1' := Lib.hid D1
  have C1' := Lib.hid C1
  have RD1' := Lib.hid RD1
  have RC1' := Lib.hid RC1
  have C2' := Lib.hid C2
  have D2' := Lib.hid D2
  have S1' := Lib.hid S1
  have RD2' := Lib.hid RD2
  have C3' := Lib.hid C3
  have D3' := Lib.hid D3
  clear D1 C1 RD1 RC1 C2 D2 S1 RD2 C3 D3 m1 m2 m3 m4 m5 m6 ip1 ip2
  go_enter Try.func3, Try.ntmps3
  go_wp2_with fail
  refine (P1.out _).mono ?_
  rintro r w' ⟨rfl, rfl⟩
  go_wp2_with fail
  refine (P2.out _).mono ?_
  rintro r w' ⟨rfl, rfl⟩
  go_wp2_with fail
  refine (D1'.out _).mono ?_
  rintro r w' ⟨rfl, rfl⟩
  go_wp2_with fail
  refine (C1'.out _).mono ?_
  rintro r w' ⟨rfl, rfl⟩
  go_wp2_with fail
  refine (left_any _).mono ?_
  rintro r w' ⟨rfl, rfl⟩
  go_wp2_with fail
  refine (RD1'.out _).mono ?_
  rintro r w' ⟨rfl, rfl⟩
  go_wp2_with fail
  refine (RC1'.out _).mono ?_
  rintro r w' ⟨rfl, rfl⟩
  go_wp2_with fail
  refine (C2'.out _).mono ?_
  rintro r w' ⟨rfl, rfl⟩
  go_wp2_with fail
  refine (D2'.out _).mono ?_
  rintro r w' ⟨rfl, rfl⟩
  go_wp2_with fail
  refine (S1'.out _).mono ?_
  rintro r w' ⟨rfl, rfl⟩
  go_wp2_with fail
  refine (RD2'.out _).mono ?_
  rintro r w' ⟨rfl, rfl⟩
  go_wp2_with fail
  refine (C3'.out _).mono ?_
  rintro r w' ⟨rfl, rfl⟩
  go_wp2_with fail
  refine (D3'.out _).mono ?_
  rintro r w' ⟨rfl, rfl⟩
  go_wp2
  go_ret
  exact ⟨rfl, rfl⟩
end Go.Proofs.Ytmfdehbbkeplaaa
