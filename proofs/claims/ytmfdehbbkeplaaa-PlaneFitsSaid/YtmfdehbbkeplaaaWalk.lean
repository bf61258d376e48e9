import Derived.Test.YtmfdehbbkeplaaaProg
import Derived.Test.YtmfdehbbkeplaaaFl
import Derived.WalkKit
import Derived.Outline
import Derived.Deep.LoopGhost
import Derived.Deep.QuietTactic
import Derived.BigQuiet
import Derived.WalkLawsBesides
import Derived.Laws.ComplexArith
import Derived.Laws.Cover2
import Derived.KernelRfl
import Derived.Lib.Hide
namespace Go.Proofs.Ytmfdehbbkeplaaa
open Go.RowKit Go Fl

theorem tmod_bd (x : Int) : (x.tmod 1000001).natAbs ≤ 1000000 := by
  rw [Int.natAbs_tmod]
  have := Nat.mod_lt x.natAbs (show 0 < (1000001 : Int).natAbs by decide)
  have e : (1000001 : Int).natAbs = 1000001 := rfl
  omega

theorem run_neg_float {P : Program} (k : FloatKind) (b : Nat) (w : World) : (Op.unary .neg (.float k b)).run P w = .ok (.float k (Op.negFloat k b)) w := rfl
attribute [local go_sem] run_neg_float

theorem place_any (x y : Int) (w : World) :
    Calls Try.prog 8 #[.int .i32 x, .int .i32 y] w fun e w' => e = .returned (.complex .f64 (F (x.tmod 1000001)) (F (y.tmod 1000001))) ∧ w = w' := by
  have e1 : floatOfInt .f64 (x.tmod 1000001) = F (x.tmod 1000001) := nearest_F _ (by have := tmod_bd x; omega)
  have e2 : floatOfInt .f64 (y.tmod 1000001) = F (y.tmod 1000001) := nearest_F _ (by have := tmod_bd y; omega)
  go_enter Try.func8, Try.ntmps8
  go_wp2
  go_ret
  exact ⟨rfl, rfl⟩

/-- A product of two whole numbers that are not too great is not too great. -/
theorem mul_bd {x y : Int} {m n : Nat} (hx : x.natAbs ≤ m) (hy : y.natAbs ≤ n) : (x * y).natAbs ≤ m * n := by
  rw [Int.natAbs_mul]; exact Nat.mul_le_mul hx hy

theorem cmulI {a b c d : Nat} {ua ub va vb : Int} (ha : IsI a ua) (hb : IsI b ub) (hc : IsI c va) (hd : IsI d vb)
    (ba : ua.natAbs ≤ 2100000) (bb : ub.natAbs ≤ 2100000) (bc : va.natAbs ≤ 2100000) (bd : vb.natAbs ≤ 2100000) :
    ∃ re im, cMulBits a (Op.negFloat .f64 b) c d = some (re, im) ∧ IsI re (ua * va + ub * vb) ∧ IsI im (ua * vb - ub * va) := by
  have h1 := mul_bd ba bc
  have h2 := mul_bd bb bd
  have h3 := mul_bd ba bd
  have h4 := mul_bd bb bc
  have hnb := negI hb (by omega)
  have f1 : (-ub * vb) = -(ub * vb) := Int.neg_mul _ _
  have f2 : (-ub * va) = -(ub * va) := Int.neg_mul _ _
  obtain ⟨r1, e1, i1⟩ := mulI ha hc (by omega) (by omega) (by omega)
  obtain ⟨r2, e2, i2⟩ := mulI hnb hd (by omega) (by omega) (by omega)
  obtain ⟨r3, e3, i3⟩ := subI i1 i2 (by omega) (by omega) (by omega)
  obtain ⟨r4, e4, i4⟩ := mulI ha hd (by omega) (by omega) (by omega)
  obtain ⟨r5, e5, i5⟩ := mulI hnb hc (by omega) (by omega) (by omega)
  obtain ⟨r6, e6, i6⟩ := addI i4 i5 (by omega) (by omega) (by omega)
  refine ⟨r3, r6, ?_, ?_, ?_⟩
  · have g1 : floatBits .mul .f64 a c = some r1 := e1
    have g2 : floatBits .mul .f64 (Op.negFloat .f64 b) d = some r2 := e2
    have g3 : floatBits .sub .f64 r1 r2 = some r3 := e3
    have g4 : floatBits .mul .f64 a d = some r4 := e4
    have g5 : floatBits .mul .f64 (Op.negFloat .f64 b) c = some r5 := e5
    have g6 : floatBits .add .f64 r4 r5 = some r6 := e6
    simp [cMulBits, g1, g2, g3, g4, g5, g6]
  · rw [f1] at i3; rwa [show ua * va + ub * vb = ua * va - -(ub * vb) by omega]
  · rw [f2] at i6; rwa [show ua * vb - ub * va = ua * vb + -(ub * va) by omega]

theorem turned_any {a b c d : Nat} {ua ub va vb : Int} (ha : IsI a ua) (hb : IsI b ub) (hc : IsI c va) (hd : IsI d vb)
    (ba : ua.natAbs ≤ 2100000) (bb : ub.natAbs ≤ 2100000) (bc : va.natAbs ≤ 2100000) (bd : vb.natAbs ≤ 2100000) (w : World) :
    Calls Try.prog 23 #[.complex .f64 a b, .complex .f64 c d] w fun e w' => (∃ re im, e = .returned (.complex .f64 re im) ∧ IsI re (ua * va + ub * vb) ∧ IsI im (ua * vb - ub * va)) ∧ w = w' := by
  obtain ⟨re, im, h, hre, him⟩ := cmulI ha hb hc hd ba bb bc bd
  have hm : ∀ w, (binOp .mul 22 (.complex .f64 a (Op.negFloat .f64 b)) (.complex .f64 c d)).run Try.prog w = .ok (.complex .f64 re im) w := fun w => run_complex_mul w _ _ _ _ _ _ _ h
  have R := Lib.hid (show ∃ re' im', Ending.returned (.complex .f64 re im) = .returned (.complex .f64 re' im') ∧ IsI re' (ua * va + ub * vb) ∧ IsI im' (ua * vb - ub * va) from ⟨re, im, rfl, hre, him⟩)
  clear h hre him ha hb hc hd
  go_enter Try.func23, Try.ntmps23
  go_wp2
  go_ret
  exact ⟨R.out, rfl⟩

theorem dot_any {a b c d : Nat} {ua ub va vb : Int} (ha : IsI a ua) (hb : IsI b ub) (hc : IsI c va) (hd : IsI d vb)
    (ba : ua.natAbs ≤ 2100000) (bb : ub.natAbs ≤ 2100000) (bc : va.natAbs ≤ 2100000) (bd : vb.natAbs ≤ 2100000) (w : World) :
    Calls Try.prog 9 #[.complex .f64 a b, .complex .f64 c d] w fun e w' => e = .returned (.float .f64 (F (ua * va + ub * vb))) ∧ w = w' := by
  have bs : (ua * va + ub * vb).natAbs < 2 ^ 53 := by
    have h1 := mul_bd ba bc
    have h2 := mul_bd bb bd
    omega
  go_enter Try.func9, Try.ntmps9
  go_wp2_with fail
  refine (turned_any ha hb hc hd ba bb bc bd _).mono ?_
  rintro e w' ⟨⟨re, im, rfl, hre, him⟩, rfl⟩
  have hm : ∀ w, (binOp .add 24 (.float .f64 re) (.float .f64 0)).run Try.prog w = .ok (.float .f64 (F (ua * va + ub * vb))) w := fun w => run_float_arith w .add _ _ _ _ _ (addZero hre bs)
  clear hre him ha hb hc hd
  go_wp2
  go_ret
  exact ⟨rfl, rfl⟩

theorem cross_any {a b c d : Nat} {ua ub va vb : Int} (ha : IsI a ua) (hb : IsI b ub) (hc : IsI c va) (hd : IsI d vb)
    (ba : ua.natAbs ≤ 2100000) (bb : ub.natAbs ≤ 2100000) (bc : va.natAbs ≤ 2100000) (bd : vb.natAbs ≤ 2100000) (w : World) :
    Calls Try.prog 10 #[.complex .f64 a b, .complex .f64 c d] w fun e w' => e = .returned (.float .f64 (F (ua * vb - ub * va))) ∧ w = w' := by
  have bs : (ua * vb - ub * va).natAbs < 2 ^ 53 := by
    have h1 := mul_bd ba bd
    have h2 := mul_bd bb bc
    omega
  go_enter Try.func10, Try.ntmps10
  go_wp2_with fail
  refine (turned_any ha hb hc hd ba bb bc bd _).mono ?_
  rintro e w' ⟨⟨re, im, rfl, hre, him⟩, rfl⟩
  have hm : ∀ w, (binOp .add 24 (.float .f64 im) (.float .f64 0)).run Try.prog w = .ok (.float .f64 (F (ua * vb - ub * va))) w := fun w => run_float_arith w .add _ _ _ _ _ (addZero him bs)
  clear hre him ha hb hc hd
  go_wp2
  go_ret
  exact ⟨rfl, rfl⟩

theorem square_any {a b : Nat} {ua ub : Int} (ha : IsI a ua) (hb : IsI b ub) (ba : ua.natAbs ≤ 2100000) (bb : ub.natAbs ≤ 2100000) (w : World) :
    Calls Try.prog 14 #[.complex .f64 a b] w fun e w' => e = .returned (.float .f64 (F (ua * ua + ub * ub))) ∧ w = w' := by
  go_enter Try.func14, Try.ntmps14
  go_wp2_with fail
  refine (dot_any ha hb ha hb ba bb ba bb _).mono ?_
  rintro e w' ⟨rfl, rfl⟩
  go_wp2
  go_ret
  exact ⟨rfl, rfl⟩

theorem at_any {a b : Nat} {ua ub : Int} (ha : IsI a ua) (hb : IsI b ub) (ba : ua.natAbs < 2 ^ 53) (bb : ub.natAbs < 2 ^ 53) (w : World) :
    Calls Try.prog 24 #[.complex .f64 a b] w fun e w' => e = .returned (.tuple #[.int .i64 ua, .int .i64 ub]) ∧ w = w' := by
  have h1 : ∀ w, (convert 24 2 (.float .f64 a)).run Try.prog w = .ok (.int .i64 ua) w := fun w => run_convert_float_int w _ _ _ _ _ _ (by rw [Try.underlying24]; rfl) Try.underlying2 (toIntI ha ba)
  have h2 : ∀ w, (convert 24 2 (.float .f64 b)).run Try.prog w = .ok (.int .i64 ub) w := fun w => run_convert_float_int w _ _ _ _ _ _ (by rw [Try.underlying24]; rfl) Try.underlying2 (toIntI hb bb)
  clear ha hb
  go_enter Try.func24, Try.ntmps24
  go_wp2
  go_ret2
  exact ⟨rfl, rfl⟩

theorem rdot_any {a b c d : Nat} {ua ub va vb : Int} (ha : IsI a ua) (hb : IsI b ub) (hc : IsI c va) (hd : IsI d vb)
    (ba : ua.natAbs ≤ 2100000) (bb : ub.natAbs ≤ 2100000) (bc : va.natAbs ≤ 2100000) (bd : vb.natAbs ≤ 2100000) (w : World) :
    Calls Try.prog 12 #[.complex .f64 a b, .complex .f64 c d] w fun e w' => e = .returned (.int .i64 (ua * va + ub * vb)) ∧ w = w' := by
  have h1 := mul_bd ba bc
  have h2 := mul_bd bb bd
  go_enter Try.func12, Try.ntmps12
  go_wp2_with fail
  refine (at_any ha hb (by omega) (by omega) _).mono ?_
  rintro e w' ⟨rfl, rfl⟩
  go_wp2_with fail
  refine (at_any hc hd (by omega) (by omega) _).mono ?_
  rintro e w' ⟨rfl, rfl⟩
  go_wp2
  go_ret
  exact ⟨rfl, rfl⟩

theorem rcross_any {a b c d : Nat} {ua ub va vb : Int} (ha : IsI a ua) (hb : IsI b ub) (hc : IsI c va) (hd : IsI d vb)
    (ba : ua.natAbs ≤ 2100000) (bb : ub.natAbs ≤ 2100000) (bc : va.natAbs ≤ 2100000) (bd : vb.natAbs ≤ 2100000) (w : World) :
    Calls Try.prog 13 #[.complex .f64 a b, .complex .f64 c d] w fun e w' => e = .returned (.int .i64 (ua * vb - ub * va)) ∧ w = w' := by
  have h1 := mul_bd ba bd
  have h2 := mul_bd bb bc
  go_enter Try.func13, Try.ntmps13
  go_wp2_with fail
  refine (at_any ha hb (by omega) (by omega) _).mono ?_
  rintro e w' ⟨rfl, rfl⟩
  go_wp2_with fail
  refine (at_any hc hd (by omega) (by omega) _).mono ?_
  rintro e w' ⟨rfl, rfl⟩
  go_wp2
  go_ret
  exact ⟨rfl, rfl⟩
theorem csubI {a b c d : Nat} {ua ub va vb : Int} (ha : IsI a ua) (hb : IsI b ub) (hc : IsI c va) (hd : IsI d vb)
    (ba : ua.natAbs ≤ 2100000) (bb : ub.natAbs ≤ 2100000) (bc : va.natAbs ≤ 2100000) (bd : vb.natAbs ≤ 2100000) :
    ∃ re im, cSumBits .sub .f64 a b c d = some (re, im) ∧ IsI re (ua - va) ∧ IsI im (ub - vb) := by
  obtain ⟨r1, e1, i1⟩ := subI ha hc (by omega) (by omega) (by omega)
  obtain ⟨r2, e2, i2⟩ := subI hb hd (by omega) (by omega) (by omega)
  refine ⟨r1, r2, ?_, i1, i2⟩
  have g1 : floatBits .sub .f64 a c = some r1 := e1
  have g2 : floatBits .sub .f64 b d = some r2 := e2
  simp [cSumBits, g1, g2]

/-- '-' of two places, in the walk's form. -/
theorem csub_run {a b c d : Nat} {ua ub va vb : Int} (ha : IsI a ua) (hb : IsI b ub) (hc : IsI c va) (hd : IsI d vb)
    (ba : ua.natAbs ≤ 2100000) (bb : ub.natAbs ≤ 2100000) (bc : va.natAbs ≤ 2100000) (bd : vb.natAbs ≤ 2100000) :
    ∃ re im, (∀ w, (binOp .sub 22 (.complex .f64 a b) (.complex .f64 c d)).run Try.prog w = .ok (.complex .f64 re im) w) ∧ IsI re (ua - va) ∧ IsI im (ub - vb) := by
  obtain ⟨re, im, h, h1, h2⟩ := csubI ha hb hc hd ba bb bc bd
  exact ⟨re, im, fun w => run_complex_sum w .sub (.inr rfl) _ _ _ _ _ _ _ _ h, h1, h2⟩

/-- The sign of a whole number. -/
def sgn (x : Int) : Int := if 0 < x then 1 else if x < 0 then -1 else 0

section
variable {a b c d e f : Nat} {ua ub va vb wa wb : Int} (ha : IsI a ua) (hb : IsI b ub) (hc : IsI c va) (hd : IsI d vb) (he : IsI e wa) (hf : IsI f wb)
    (ba : ua.natAbs ≤ 1000000) (bb : ub.natAbs ≤ 1000000) (bc : va.natAbs ≤ 1000000) (bd : vb.natAbs ≤ 1000000) (be : wa.natAbs ≤ 1000000) (bf : wb.natAbs ≤ 1000000) (w : World)
include ha hb hc hd he hf ba bb bc bd be bf

theorem turn_any : Calls Try.prog 16 #[.complex .f64 a b, .complex .f64 c d, .complex .f64 e f] w fun r w' => r = .returned (.int .i64 (sgn ((va - ua) * (wb - vb) - (vb - ub) * (wa - va)))) ∧ w = w' := by
  obtain ⟨p1, p2, hp, ip1, ip2⟩ := csub_run hc hd ha hb (by omega) (by omega) (by omega) (by omega)
  obtain ⟨q1, q2, hq, iq1, iq2⟩ := csub_run he hf hc hd (by omega) (by omega) (by omega) (by omega)
  have hcr := Lib.hid (cross_any ip1 ip2 iq1 iq2 (by omega) (by omega) (by omega) (by omega))
  have h1 := mul_bd (x := va - ua) (y := wb - vb) (m := 2100000) (n := 2100000) (by omega) (by omega)
  have h2 := mul_bd (x := vb - ub) (y := wa - va) (m := 2100000) (n := 2100000) (by omega) (by omega)
  generalize hX : (va - ua) * (wb - vb) - (vb - ub) * (wa - va) = X at *
  have hXb : X.natAbs < 2 ^ 53 := by omega
  have hgt := ord_gt (isF X) isF0 hXb (by decide)
  have hlt := ord_lt (isF X) isF0 hXb (by decide)
  clear hX ha hb hc hd he hf ip1 ip2 iq1 iq2 h1 h2
  rcases Int.lt_trichotomy X 0 with h | h | h
  · have g1 : (FloatKind.f64.format.order (F X) 0 == some Ordering.gt) = false := by rw [hgt]; simp; omega
    have g2 : (FloatKind.f64.format.order (F X) 0 == some Ordering.lt) = true := by rw [hlt]; simp; omega
    have e0 : sgn X = -1 := by unfold sgn; rw [if_neg (by omega), if_pos h]
    have e := Lib.hid e0
    clear hgt hlt e0
    go_enter Try.func16, Try.ntmps16
    go_wp2_with (go_at_call 10; refine (hcr.out _).mono ?_; rintro r w' ⟨rfl, rfl⟩)
    go_ret
    exact ⟨by rw [e.out]; rfl, rfl⟩
  · have g1 : (FloatKind.f64.format.order (F X) 0 == some Ordering.gt) = false := by rw [hgt]; simp; omega
    have g2 : (FloatKind.f64.format.order (F X) 0 == some Ordering.lt) = false := by rw [hlt]; simp; omega
    have e0 : sgn X = 0 := by unfold sgn; rw [if_neg (by omega), if_neg (by omega)]
    have e := Lib.hid e0
    clear hgt hlt e0 h
    go_enter Try.func16, Try.ntmps16
    go_wp2_with (go_at_call 10; refine (hcr.out _).mono ?_; rintro r w' ⟨rfl, rfl⟩)
    go_ret
    exact ⟨by rw [e.out]; rfl, rfl⟩
  · have g1 : (FloatKind.f64.format.order (F X) 0 == some Ordering.gt) = true := by rw [hgt]; simp; omega
    have g2 : (FloatKind.f64.format.order (F X) 0 == some Ordering.lt) = false := by rw [hlt]; simp; omega
    have e0 : sgn X = 1 := by unfold sgn; rw [if_pos h]
    have e := Lib.hid e0
    clear hgt hlt e0
    go_enter Try.func16, Try.ntmps16
    go_wp2_with (go_at_call 10; refine (hcr.out _).mono ?_; rintro r w' ⟨rfl, rfl⟩)
    go_ret
    exact ⟨by rw [e.out]; rfl, rfl⟩

theorem ahead_any : Calls Try.prog 17 #[.complex .f64 a b, .complex .f64 c d, .complex .f64 e f] w fun r w' => r = .returned (.bool (decide (0 < (va - ua) * (wa - va) + (vb - ub) * (wb - vb)))) ∧ w = w' := by
  obtain ⟨p1, p2, hp, ip1, ip2⟩ := csub_run hc hd ha hb (by omega) (by omega) (by omega) (by omega)
  obtain ⟨q1, q2, hq, iq1, iq2⟩ := csub_run he hf hc hd (by omega) (by omega) (by omega) (by omega)
  have hcr := Lib.hid (dot_any ip1 ip2 iq1 iq2 (by omega) (by omega) (by omega) (by omega))
  have h1 := mul_bd (x := va - ua) (y := wa - va) (m := 2100000) (n := 2100000) (by omega) (by omega)
  have h2 := mul_bd (x := vb - ub) (y := wb - vb) (m := 2100000) (n := 2100000) (by omega) (by omega)
  generalize hX : (va - ua) * (wa - va) + (vb - ub) * (wb - vb) = X at *
  have hXb : X.natAbs < 2 ^ 53 := by omega
  have hgt := ord_gt (isF X) isF0 hXb (by decide)
  clear hX ha hb hc hd he hf ip1 ip2 iq1 iq2 h1 h2
  go_enter Try.func17, Try.ntmps17
  go_wp2_with (go_at_call 9; refine (hcr.out _).mono ?_; rintro r w' ⟨rfl, rfl⟩)
  go_ret
  exact ⟨rfl, rfl⟩
end

theorem F10 : F 10 = 4621819117588971520 := by decide
theorem F5 : F 5 = 4617315517961601024 := by decide
theorem F4 : F 4 = 4616189618054758400 := by decide
theorem F3 : F 3 = 4613937818241073152 := by decide

/-- The test of a length between two places. -/
def fits (x y u v n : Int) : Bool := decide (¬ (x = u ∧ y = v) ∧ 1 ≤ n ∧ n ≤ 10000 ∧ (u - x) * (u - x) + (v - y) * (v - y) ≤ n * n)

theorem fits_any {a b c d : Nat} {ua ub va vb : Int} (ha : IsI a ua) (hb : IsI b ub) (hc : IsI c va) (hd : IsI d vb)
    (ba : ua.natAbs ≤ 1050000) (bb : ub.natAbs ≤ 1050000) (bc : va.natAbs ≤ 1050000) (bd : vb.natAbs ≤ 1050000) (n : Int) (hn : -9223372036854775808 ≤ n ∧ n ≤ 9223372036854775807) (w : World) :
    Calls Try.prog 21 #[.complex .f64 a b, .complex .f64 c d, .int .i64 n] w fun r w' => r = .returned (.bool (fits ua ub va vb n)) ∧ w = w' := by
  have e1 := ord_eq ha hc (by omega) (by omega)
  have e2 := ord_eq hb hd (by omega) (by omega)
  by_cases h0 : ua = va ∧ ub = vb
  · have e3 : ((FloatKind.f64.format.order a c == some Ordering.eq) && (FloatKind.f64.format.order b d == some Ordering.eq)) = true := by rw [e1, e2]; simp [h0]
    have R0 : fits ua ub va vb n = false := by unfold fits; simp [h0]
    have R := Lib.hid R0
    clear R0 e1 e2 h0 ha hb hc hd
    go_enter Try.func21, Try.ntmps21
    go_wp2
    go_ret
    exact ⟨by rw [R.out]; rfl, rfl⟩
  · have e3 : ((FloatKind.f64.format.order a c == some Ordering.eq) && (FloatKind.f64.format.order b d == some Ordering.eq)) = false := by rw [e1, e2]; simp; omega
    by_cases h1 : n < 1
    · have R0 : fits ua ub va vb n = false := by unfold fits; simp; omega
      have R := Lib.hid R0
      clear R0 e1 e2 h0 ha hb hc hd
      go_enter Try.func21, Try.ntmps21
      go_wp2
      go_ret
      exact ⟨by rw [R.out]; rfl, rfl⟩
    · by_cases h2 : 10000 < n
      · have R0 : fits ua ub va vb n = false := by unfold fits; simp; omega
        have R := Lib.hid R0
        clear R0 e1 e2 h0 ha hb hc hd
        go_enter Try.func21, Try.ntmps21
        go_wp2
        go_ret
        exact ⟨by rw [R.out]; rfl, rfl⟩
      · have en : floatOfInt .f64 n = F n := nearest_F _ (by omega)
        obtain ⟨q1, q2, hq, iq1, iq2⟩ := csub_run hc hd ha hb (by omega) (by omega) (by omega) (by omega)
        have hs1 := Lib.hid (square_any (isF n) isF0 (by omega) (by decide))
        have hs2 := Lib.hid (square_any iq1 iq2 (by omega) (by omega))
        have m1 := mul_bd (x := va - ua) (y := va - ua) (m := 2100000) (n := 2100000) (by omega) (by omega)
        have m2 := mul_bd (x := vb - ub) (y := vb - ub) (m := 2100000) (n := 2100000) (by omega) (by omega)
        have m3 := mul_bd (x := n) (y := n) (m := 10000) (n := 10000) (by omega) (by omega)
        have o1 := ord_gt (isF (n * n + 0 * 0)) (isF ((va - ua) * (va - ua) + (vb - ub) * (vb - ub))) (by omega) (by omega)
        have o2 := ord_eq (isF (n * n + 0 * 0)) (isF ((va - ua) * (va - ua) + (vb - ub) * (vb - ub))) (by omega) (by omega)
        have R0 : fits ua ub va vb n = (FloatKind.f64.format.order (F (n * n + 0 * 0)) (F ((va - ua) * (va - ua) + (vb - ub) * (vb - ub))) == some Ordering.gt || FloatKind.f64.format.order (F (n * n + 0 * 0)) (F ((va - ua) * (va - ua) + (vb - ub) * (vb - ub))) == some Ordering.eq) := by
          rw [o1, o2]
          unfold fits
          rw [Bool.eq_iff_iff]
          simp
          omega
        have R := Lib.hid R0
        generalize (F (n * n + 0 * 0)) = X1 at *
        generalize (F ((va - ua) * (va - ua) + (vb - ub) * (vb - ub))) = X2 at *
        clear R0 e1 e2 h0 ha hb hc hd o1 o2 m1 m2 m3 iq1 iq2
        go_enter Try.func21, Try.ntmps21
        go_wp2_with fail
        refine (hs1.out _).mono ?_
        rintro r w' ⟨rfl, rfl⟩
        go_wp2_with fail
        refine (hs2.out _).mono ?_
        rintro r w' ⟨rfl, rfl⟩
        go_wp2
        go_ret
        exact ⟨by rw [R.out]; rfl, rfl⟩

theorem rfits_any {a b c d : Nat} {ua ub va vb : Int} (ha : IsI a ua) (hb : IsI b ub) (hc : IsI c va) (hd : IsI d vb)
    (ba : ua.natAbs ≤ 1050000) (bb : ub.natAbs ≤ 1050000) (bc : va.natAbs ≤ 1050000) (bd : vb.natAbs ≤ 1050000) (n : Int) (hn : -9223372036854775808 ≤ n ∧ n ≤ 9223372036854775807) (w : World) :
    Calls Try.prog 22 #[.complex .f64 a b, .complex .f64 c d, .int .i64 n] w fun r w' => r = .returned (.bool (fits ua ub va vb n)) ∧ w = w' := by
  obtain ⟨q1, q2, hq, iq1, iq2⟩ := csub_run hc hd ha hb (by omega) (by omega) (by omega) (by omega)
  have hs := Lib.hid (rdot_any iq1 iq2 iq1 iq2 (by omega) (by omega) (by omega) (by omega))
  have m1 := mul_bd (x := va - ua) (y := va - ua) (m := 2100000) (n := 2100000) (by omega) (by omega)
  have m2 := mul_bd (x := vb - ub) (y := vb - ub) (m := 2100000) (n := 2100000) (by omega) (by omega)
  by_cases h1 : n < 1
  · have R0 : fits ua ub va vb n = false := by unfold fits; simp; omega
    have R := Lib.hid R0
    clear R0 ha hb hc hd m1 m2
    go_enter Try.func22, Try.ntmps22
    go_wp2
    go_ret
    exact ⟨by rw [R.out]; rfl, rfl⟩
  · by_cases h2 : 10000 < n
    · have R0 : fits ua ub va vb n = false := by unfold fits; simp; omega
      have R := Lib.hid R0
      clear R0 ha hb hc hd m1 m2
      go_enter Try.func22, Try.ntmps22
      go_wp2
      go_ret
      exact ⟨by rw [R.out]; rfl, rfl⟩
    · have m3 := mul_bd (x := n) (y := n) (m := 10000) (n := 10000) (by omega) (by omega)
      have R0 : fits ua ub va vb n = (decide (0 < (va - ua) * (va - ua) + (vb - ub) * (vb - ub)) && decide ((va - ua) * (va - ua) + (vb - ub) * (vb - ub) ≤ n * n)) := by
        unfold fits
        have z1 : 0 ≤ (va - ua) * (va - ua) := by
          rcases Int.le_total 0 (va - ua) with h | h
          · exact Int.mul_nonneg h h
          · exact Int.mul_nonneg_of_nonpos_of_nonpos h h
        have z2 : 0 ≤ (vb - ub) * (vb - ub) := by
          rcases Int.le_total 0 (vb - ub) with h | h
          · exact Int.mul_nonneg h h
          · exact Int.mul_nonneg_of_nonpos_of_nonpos h h
        have z3 : 0 < (va - ua) * (va - ua) + (vb - ub) * (vb - ub) ↔ ¬ (ua = va ∧ ub = vb) := by
          constructor
          · rintro h ⟨rfl, rfl⟩; simp at h
          · intro h
            rcases (by omega : va - ua ≠ 0 ∨ vb - ub ≠ 0) with h' | h'
            · have := Int.mul_ne_zero h' h'; omega
            · have := Int.mul_ne_zero h' h'; omega
        rw [Bool.eq_iff_iff]
        simp only [decide_eq_true_eq, Bool.and_eq_true, z3]
        omega
      have R := Lib.hid R0
      generalize hX2 : (va - ua) * (va - ua) + (vb - ub) * (vb - ub) = X2 at *
      have m4 : 0 ≤ n * n := Int.mul_nonneg (by omega) (by omega)
      have m5 : n * n ≤ 100000000 := by omega
      clear hX2 R0 ha hb hc hd m1 m2 m3 iq1 iq2 ba bb bc bd
      by_cases h3 : 0 < X2
      · go_enter Try.func22, Try.ntmps22
        go_wp2_with fail
        refine (hs.out _).mono ?_
        rintro r w' ⟨rfl, rfl⟩
        go_wp2
        go_ret
        exact ⟨by rw [R.out]; simp [h3], rfl⟩
      · go_enter Try.func22, Try.ntmps22
        go_wp2_with fail
        refine (hs.out _).mono ?_
        rintro r w' ⟨rfl, rfl⟩
        go_wp2
        go_ret
        exact ⟨by rw [R.out, decide_eq_false (by omega)]; rfl, rfl⟩

theorem isC (n : Int) (b : Nat) (h : F n = b) : IsI b n := .inl h.symm

theorem left_any (w : World) : Calls Try.prog 11 #[] w fun r w' => r = .returned (.bool true) ∧ w = w' := by
  have t := turn_any isF0 isF0 (isC 10 4621819117588971520 F10) isF0 (isC 10 4621819117588971520 F10) (isC 5 4617315517961601024 F5) (by decide) (by decide) (by decide) (by decide) (by decide) (by decide)
  have f1 := fits_any isF0 isF0 (isC 3 4613937818241073152 F3) (isC 4 4616189618054758400 F4) (by decide) (by decide) (by decide) (by decide) 5 (by decide)
  have f2 := fits_any isF0 isF0 (isC 3 4613937818241073152 F3) (isC 4 4616189618054758400 F4) (by decide) (by decide) (by decide) (by decide) 4 (by decide)
  rw [show sgn ((10 - 0) * (5 - 0) - (0 - 0) * (10 - 10)) = 1 by decide] at t
  rw [show fits 0 0 3 4 5 = true by decide] at f1
  rw [show fits 0 0 3 4 4 = false by decide] at f2
  have T := Lib.hid t
  have F1 := Lib.hid f1
  have F2 := Lib.hid f2
  clear t f1 f2
  go_enter Try.func11, Try.ntmps11
  go_wp2_with fail
  refine (T.out _).mono ?_
  rintro r w' ⟨rfl, rfl⟩
  go_wp2_with fail
  refine (F1.out _).mono ?_
  rintro r w' ⟨rfl, rfl⟩
  go_wp2_with fail
  refine (F2.out _).mono ?_
  rintro r w' ⟨rfl, rfl⟩
  go_wp2
  go_ret
  exact ⟨rfl, rfl⟩
end Go.Proofs.Ytmfdehbbkeplaaa
