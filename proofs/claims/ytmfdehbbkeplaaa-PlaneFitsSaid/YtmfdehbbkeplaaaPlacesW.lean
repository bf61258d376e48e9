import Derived.Test.YtmfdehbbkeplaaaWholeW
namespace Go.Proofs.Ytmfdehbbkeplaaa
open Go.RowKit Go Fl Ieee
attribute [local go_sem] bits_run frombits_run

theorem FM : F 1000000 = 4696837146684686336 := by decide
theorem FMn : F (-1000000) = 13920209183539462144 := by decide
theorem isM : IsI 4696837146684686336 1000000 := .inl FM.symm
theorem isMn : IsI 13920209183539462144 (-1000000) := .inl FMn.symm

theorem order_nan_l {a b : Nat} {s : Bool} {t : Nat} (h : double.read a = .nan s t) : double.order a b = none := by
  rw [Format.order, h]; rfl
theorem order_nan_r {a b : Nat} {s : Bool} {t : Nat} (h : double.read b = .nan s t) : double.order a b = none := by
  rw [Format.order, h]; cases double.read a <;> rfl

/-- 'x == math.Trunc(x)' at a number. -/
theorem eq_trunc {b : Nat} {s : Bool} {m : Nat} {p : Int} (h : double.read b = .number s m p) (hm : mags m p ≤ 1000000 * 2 ^ U) :
    (FloatKind.f64.format.order b (double.write (.number s (mags m p / 2 ^ U) 0)) == some Ordering.eq) = decide (mags m p / 2 ^ U * 2 ^ U = mags m p) := by
  have hp := two_pow_pos U
  have ht : mags m p / 2 ^ U ≤ 1000000 := by
    have := Nat.div_le_div_right (c := 2 ^ U) hm
    rwa [Nat.mul_div_cancel _ hp] at this
  generalize hT : mags m p / 2 ^ U = t at *
  have hi : IsI (double.write (.number s t 0)) (sg s t) := write_rep (rep_sg s t) (by rw [sg_natAbs]; omega)
  have e : FloatKind.f64.format.order b (double.write (.number s t 0)) = some (compare (sg s (mags m p)) (sg s t * 2 ^ U)) := order_int h hi (by rw [sg_natAbs]; omega)
  rw [e, cmp_eq, ← sg_shift, decide_eq_decide, sg_eq_iff]
  exact ⟨Eq.symm, Eq.symm⟩

/-- 'math.Abs(x) <= 1000000' at a number. -/
theorem abs_le {b : Nat} {s : Bool} {m : Nat} {p : Int} (h : double.read b = .number s m p) :
    (FloatKind.f64.format.order (b % 2 ^ 63) 4696837146684686336 == some Ordering.lt || FloatKind.f64.format.order (b % 2 ^ 63) 4696837146684686336 == some Ordering.eq) = decide (mags m p ≤ 1000000 * 2 ^ U) := by
  have e : FloatKind.f64.format.order (b % 2 ^ 63) 4696837146684686336 = some (compare (sg false (mags m p)) (1000000 * 2 ^ U)) := order_int (read_abs h) isM (by decide)
  have hc : (sg false (mags m p) < 1000000 * 2 ^ U ∨ sg false (mags m p) = 1000000 * 2 ^ U) ↔ mags m p ≤ 1000000 * 2 ^ U := by
    have e2 : (1000000 * 2 ^ U : Int) = ((1000000 * 2 ^ U : Nat) : Int) := by rw [Int.natCast_mul, Int.natCast_pow]; rfl
    rw [e2]
    simp only [sg, Bool.false_eq_true, if_false]
    generalize 1000000 * 2 ^ U = z
    omega
  rw [e, cmp_lt, cmp_eq, Bool.eq_iff_iff, Bool.or_eq_true, decide_eq_true_eq, decide_eq_true_eq, decide_eq_true_eq, hc]

theorem whole_any (b : Nat) (hb : b < 2 ^ 64) (w : World) :
    Calls Try.prog 25 #[.float .f64 b] w fun r w' => r = .returned (.bool (wholeB b)) ∧ ∃ n, w' = w.drewN n := by
  have A := Lib.hid (abs_any b hb)
  cases h : double.read b with
  | number s m p =>
    have T := Lib.hid (mtrunc_num h)
    have e2 := abs_le h
    have R0 := wholeB_num h
    by_cases hm : mags m p ≤ 1000000 * 2 ^ U
    · have e1 := eq_trunc h hm
      rw [decide_eq_true hm] at e2
      have R1 : wholeB b = decide (mags m p / 2 ^ U * 2 ^ U = mags m p) := by rw [R0]; simp [hm]
      have R := Lib.hid R1
      clear R0 R1 hm h
      generalize double.write (.number s (mags m p / 2 ^ U) 0) = c at *
      generalize hd : decide (mags m p / 2 ^ U * 2 ^ U = mags m p) = d at *
      generalize hb2 : b % 2 ^ 63 = b2 at *
      clear hd hb2
      cases d
      all_goals
        go_enter Try.func25, Try.ntmps25
        go_wp2_with (first | (go_at_call 27; refine (T.out _).mono ?_; rintro r w' ⟨rfl, rfl⟩) | (go_at_call 28; refine (A.out _).mono ?_; rintro r w' ⟨rfl, rfl⟩))
        go_ret
        exact ⟨by rw [R.out]; rfl, 0, rfl⟩
    · rw [decide_eq_false hm] at e2
      have R1 : wholeB b = false := by rw [R0]; simp [hm]
      have R := Lib.hid R1
      clear R0 R1 hm h
      generalize double.write (.number s (mags m p / 2 ^ U) 0) = c at *
      generalize hb2 : b % 2 ^ 63 = b2 at *
      clear hb2
      by_cases hc : (FloatKind.f64.format.order b c == some Ordering.eq) = true
      · go_enter Try.func25, Try.ntmps25
        go_wp2_with (first | (go_at_call 27; refine (T.out _).mono ?_; rintro r w' ⟨rfl, rfl⟩) | (go_at_call 28; refine (A.out _).mono ?_; rintro r w' ⟨rfl, rfl⟩))
        go_ret
        exact ⟨by rw [R.out]; rfl, 0, rfl⟩
      · have hc' : (FloatKind.f64.format.order b c == some Ordering.eq) = false := by simpa using hc
        clear hc
        go_enter Try.func25, Try.ntmps25
        go_wp2_with (first | (go_at_call 27; refine (T.out _).mono ?_; rintro r w' ⟨rfl, rfl⟩) | (go_at_call 28; refine (A.out _).mono ?_; rintro r w' ⟨rfl, rfl⟩))
        go_ret
        exact ⟨by rw [R.out]; rfl, 0, rfl⟩
  | infinity s =>
    have T := Lib.hid (mtrunc_inf h)
    have R1 : wholeB b = false := by unfold wholeB; rw [h]
    have R := Lib.hid R1
    have hw : double.read (double.write (.infinity s)) = .infinity s := by cases s <;> decide
    have e1 : (FloatKind.f64.format.order b (double.write (.infinity s)) == some Ordering.eq) = true := by
      show ((double.read b).order (double.read (double.write (.infinity s))) == some Ordering.eq) = true
      rw [h, hw]
      cases s <;> rfl
    have e2 : (FloatKind.f64.format.order (b % 2 ^ 63) 4696837146684686336 == some Ordering.lt || FloatKind.f64.format.order (b % 2 ^ 63) 4696837146684686336 == some Ordering.eq) = false := by
      have : FloatKind.f64.format.order (b % 2 ^ 63) 4696837146684686336 = some .gt := by
        show (double.read (b % 2 ^ 63)).order (double.read 4696837146684686336) = _
        obtain ⟨t, k, q, h1, _⟩ := isM.rep (by decide)
        rw [read_abs_inf h, h1]
        rfl
      rw [this]; rfl
    clear h hw R1
    generalize double.write (.infinity s) = c at *
    generalize b % 2 ^ 63 = b2 at *
    go_enter Try.func25, Try.ntmps25
    go_wp2_with (first | (go_at_call 27; refine (T.out _).mono ?_; rintro r w' ⟨rfl, rfl⟩) | (go_at_call 28; refine (A.out _).mono ?_; rintro r w' ⟨rfl, rfl⟩))
    go_ret
    exact ⟨by rw [R.out]; rfl, 0, rfl⟩
  | nan s t =>
    have T := Lib.hid (mtrunc_nan h)
    have R1 : wholeB b = false := by unfold wholeB; rw [h]
    have R := Lib.hid R1
    have e1 : ∀ c, FloatKind.f64.format.order b c = none := fun c => order_nan_l h
    clear h R1
    go_enter Try.func25, Try.ntmps25
    go_wp2_with fail
    refine (T.out _).mono ?_
    rintro r w' ⟨c, n, rfl, rfl⟩
    go_wp2
    go_ret
    exact ⟨by rw [R.out]; rfl, n, rfl⟩

theorem int_order {a b : Nat} {s : Bool} {m : Nat} {p n : Int} (ha : double.read a = .number s m p) (hb : IsI b n) (hn : n.natAbs < 2 ^ 53) :
    double.order b a = some (compare (n * 2 ^ U) (sg s (mags m p))) := by
  obtain ⟨t, k, q, h1, h2⟩ := (hb.rep hn).mags
  rw [order_fin h1 ha, h2 (read_place h1)]

theorem toInt_num {b : Nat} {s : Bool} {m : Nat} {p : Int} (h : double.read b = .number s m p) (hm : mags m p / 2 ^ U ≤ 1000000) : floatToIntVal .f64 b .i64 = some (sg s (mags m p / 2 ^ U)) := by
  have e : (double.read b).toInt .zero = some (sg s (mags m p / 2 ^ U)) := by
    rw [h]
    show some (signed s (Toward.zero.cut s (m <<< p.toNat) (-p).toNat) 0) = _
    rw [whole_part s m p (read_place h), signed_eq, Int.pow_zero, Int.mul_one]
  unfold floatToIntVal
  show (match (double.read b).toInt .zero with
    | some n => if IntKind.i64.min ≤ n ∧ n ≤ IntKind.i64.max then some n else none
    | none => none) = _
  rw [e]
  have h1 : IntKind.i64.min = -9223372036854775808 := by decide
  have h2 : IntKind.i64.max = 9223372036854775807 := by decide
  have h3 := sg_natAbs s (mags m p / 2 ^ U)
  generalize sg s (mags m p / 2 ^ U) = z at *
  generalize mags m p / 2 ^ U = y at *
  simp only
  rw [h1, h2, if_pos (by omega)]

theorem rwhole_any (b : Nat) (w : World) :
    Calls Try.prog 26 #[.float .f64 b] w fun r w' => r = .returned (.bool (wholeB b)) ∧ w = w' := by
  cases h : double.read b with
  | number s m p =>
    have R0 := wholeB_num h
    have o1 : FloatKind.f64.format.order b 13920209183539462144 = some (compare (sg s (mags m p)) (-1000000 * 2 ^ U)) := order_int h isMn (by decide)
    have o2 : FloatKind.f64.format.order b 4696837146684686336 = some (compare (sg s (mags m p)) (1000000 * 2 ^ U)) := order_int h isM (by decide)
    have z1 : (-1000000 * 2 ^ U : Int) = -((1000000 * 2 ^ U : Nat) : Int) := by rw [Int.natCast_mul, Int.natCast_pow, ← Int.neg_mul]; rfl
    have z2 : (1000000 * 2 ^ U : Int) = ((1000000 * 2 ^ U : Nat) : Int) := by rw [Int.natCast_mul, Int.natCast_pow]; rfl
    have c1 : (FloatKind.f64.format.order b 13920209183539462144 == some Ordering.gt || FloatKind.f64.format.order b 13920209183539462144 == some Ordering.eq) = decide (-((1000000 * 2 ^ U : Nat) : Int) ≤ sg s (mags m p)) := by
      rw [o1, z1, cmp_gt, cmp_eq]
      generalize 1000000 * 2 ^ U = z
      rw [Bool.eq_iff_iff, Bool.or_eq_true, decide_eq_true_eq, decide_eq_true_eq, decide_eq_true_eq]
      omega
    have c2 : (FloatKind.f64.format.order b 4696837146684686336 == some Ordering.lt || FloatKind.f64.format.order b 4696837146684686336 == some Ordering.eq) = decide (sg s (mags m p) ≤ ((1000000 * 2 ^ U : Nat) : Int)) := by
      rw [o2, z2, cmp_lt, cmp_eq]
      generalize 1000000 * 2 ^ U = z
      rw [Bool.eq_iff_iff, Bool.or_eq_true, decide_eq_true_eq, decide_eq_true_eq, decide_eq_true_eq]
      omega
    have hab := sg_natAbs s (mags m p)
    by_cases hm : mags m p ≤ 1000000 * 2 ^ U
    · have hp := two_pow_pos U
      have ht : mags m p / 2 ^ U ≤ 1000000 := by
        have := Nat.div_le_div_right (c := 2 ^ U) hm
        rwa [Nat.mul_div_cancel _ hp] at this
      have hab2 := sg_natAbs s (mags m p / 2 ^ U)
      have g1 : ∀ w, (convert 24 2 (.float .f64 b)).run Try.prog w = .ok (.int .i64 (sg s (mags m p / 2 ^ U))) w := fun w =>
        run_convert_float_int w _ _ _ _ _ _ (by rw [Try.underlying24]; rfl) Try.underlying2 (toInt_num h ht)
      have g2 : floatOfInt .f64 (sg s (mags m p / 2 ^ U)) = F (sg s (mags m p / 2 ^ U)) := nearest_F _ (by omega)
      have c3 : (FloatKind.f64.format.order (F (sg s (mags m p / 2 ^ U))) b == some Ordering.eq) = decide (mags m p / 2 ^ U * 2 ^ U = mags m p) := by
        have e : FloatKind.f64.format.order (F (sg s (mags m p / 2 ^ U))) b = some (compare (sg s (mags m p / 2 ^ U) * 2 ^ U) (sg s (mags m p))) := int_order h (isF _) (by omega)
        rw [e, cmp_eq, ← sg_shift, decide_eq_decide, sg_eq_iff]
      have R1 : wholeB b = decide (mags m p / 2 ^ U * 2 ^ U = mags m p) := by rw [R0]; simp [hm]
      have R := Lib.hid R1
      generalize hz : 1000000 * 2 ^ U = z at *
      have d1 : decide (-((z : Nat) : Int) ≤ sg s (mags m p)) = true := decide_eq_true (by omega)
      have d2 : decide (sg s (mags m p) ≤ ((z : Nat) : Int)) = true := decide_eq_true (by omega)
      rw [d1] at c1
      rw [d2] at c2
      clear R0 R1 hm h o1 o2 z1 z2 hab hab2 d1 d2 ht hz
      generalize F (sg s (mags m p / 2 ^ U)) = y at *
      generalize sg s (mags m p / 2 ^ U) = x at *
      generalize decide (mags m p / 2 ^ U * 2 ^ U = mags m p) = d at *
      go_enter Try.func26, Try.ntmps26
      go_wp2
      go_ret
      exact ⟨by rw [R.out]; rfl, rfl⟩
    · have R1 : wholeB b = false := by rw [R0]; simp [hm]
      have R := Lib.hid R1
      generalize hz : 1000000 * 2 ^ U = z at *
      by_cases hs : -((z : Nat) : Int) ≤ sg s (mags m p)
      · have hs2 : ¬ sg s (mags m p) ≤ ((z : Nat) : Int) := by omega
        rw [decide_eq_true hs] at c1
        rw [decide_eq_false hs2] at c2
        clear R0 R1 hm h o1 o2 z1 z2 hab hs hs2 hz
        go_enter Try.func26, Try.ntmps26
        go_wp2
        go_ret
        exact ⟨by rw [R.out]; rfl, rfl⟩
      · rw [decide_eq_false hs] at c1
        clear R0 R1 hm h o1 o2 z1 z2 hab hs hz c2
        go_enter Try.func26, Try.ntmps26
        go_wp2
        go_ret
        exact ⟨by rw [R.out]; rfl, rfl⟩
  | infinity s =>
    have R1 : wholeB b = false := by unfold wholeB; rw [h]
    have R := Lib.hid R1
    obtain ⟨t, k, q, h1, _⟩ := isM.rep (by decide)
    obtain ⟨t', k', q', h1', _⟩ := isMn.rep (by decide)
    have e1 : FloatKind.f64.format.order b 13920209183539462144 = some (if s then .lt else .gt) := by
      show (double.read b).order (double.read 13920209183539462144) = _
      rw [h, h1']; rfl
    have e2 : FloatKind.f64.format.order b 4696837146684686336 = some (if s then .lt else .gt) := by
      show (double.read b).order (double.read 4696837146684686336) = _
      rw [h, h1]; rfl
    clear h R1 h1 h1'
    cases s
    all_goals
      simp only [if_true, Bool.false_eq_true, if_false] at e1 e2
      go_enter Try.func26, Try.ntmps26
      go_wp2
      go_ret
      exact ⟨by rw [R.out]; rfl, rfl⟩
  | nan s t =>
    have R1 : wholeB b = false := by unfold wholeB; rw [h]
    have R := Lib.hid R1
    have e1 : ∀ c, FloatKind.f64.format.order b c = none := fun c => order_nan_l h
    clear h R1
    go_enter Try.func26, Try.ntmps26
    go_wp2
    go_ret
    exact ⟨by rw [R.out]; rfl, rfl⟩

theorem place_test (a b : Nat) (ha : a < 2 ^ 64) (hb : b < 2 ^ 64) (w : World) :
    Calls Try.prog 19 #[.complex .f64 a b] w fun r w' => r = .returned (.bool (wholeB a && wholeB b)) ∧ ∃ n, w' = w.drewN n := by
  have A := Lib.hid (whole_any a ha)
  have B := Lib.hid (whole_any b hb)
  cases h : wholeB a
  all_goals
    go_enter Try.func19, Try.ntmps19
    go_wp2_with fail
    refine (A.out _).mono ?_
    rintro r w' ⟨rfl, n, rfl⟩
    go_wp2_with fail
    try
      refine (B.out _).mono ?_
      rintro r w' ⟨rfl, m, rfl⟩
      go_wp2
    go_ret
    exact ⟨rfl, _, by first | rfl | exact World.drewN_drewN ..⟩

theorem rplace_test (a b : Nat) (w : World) :
    Calls Try.prog 20 #[.complex .f64 a b] w fun r w' => r = .returned (.bool (wholeB a && wholeB b)) ∧ w = w' := by
  have A := Lib.hid (rwhole_any a)
  have B := Lib.hid (rwhole_any b)
  cases h : wholeB a
  all_goals
    go_enter Try.func20, Try.ntmps20
    go_wp2_with fail
    refine (A.out _).mono ?_
    rintro r w' ⟨rfl, rfl⟩
    go_wp2_with fail
    try
      refine (B.out _).mono ?_
      rintro r w' ⟨rfl, rfl⟩
      go_wp2
    go_ret
    exact ⟨rfl, rfl⟩

end Go.Proofs.Ytmfdehbbkeplaaa
