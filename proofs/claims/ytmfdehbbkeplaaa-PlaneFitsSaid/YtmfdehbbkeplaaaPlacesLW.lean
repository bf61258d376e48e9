import Derived.Test.YtmfdehbbkeplaaaPlacesW
namespace Go.Proofs.Ytmfdehbbkeplaaa
open Go.RowKit Go Fl Ieee
attribute [local go_sem] bits_run frombits_run

theorem F_lt (n : Int) (hn : n.natAbs < 2 ^ 53) : F n < 2 ^ 64 := by
  unfold F
  split
  · decide
  · rename_i h
    have ⟨h1, h2⟩ := rung_lt (by omega : 0 < n.natAbs) hn
    unfold Format.word
    rw [double_signWeight]
    split <;> omega

theorem isI_lt {b : Nat} {n : Int} (h : IsI b n) (hn : n.natAbs < 2 ^ 53) : b < 2 ^ 64 := by
  rcases h with rfl | ⟨_, rfl⟩
  · exact F_lt n hn
  · decide

theorem isB : IsI 4696837155274620928 1000001 := .inl (by decide)

theorem planePlaces_any (a b : Nat) (ha : a < 2 ^ 64) (hb : b < 2 ^ 64) (x y : Int) (hx : -2147483648 ≤ x ∧ x ≤ 2147483647) (w : World) :
    Calls Try.prog 6 #[.int .u64 a, .int .u64 b, .int .i32 x, .int .i32 y] w fun r w' => r = .returned (.bool true) ∧ ∃ n, w' = w.drewN n := by
  have P := Lib.hid (fun w => place_any x y w)
  have bx := tmod_bd x
  have by' := tmod_bd y
  have T1 := Lib.hid (place_test a b ha hb)
  have T2 := Lib.hid (rplace_test a b)
  generalize x.tmod 1000001 = ux at *
  generalize y.tmod 1000001 = uy at *
  obtain ⟨r, hr, hrw⟩ := half_not (isF ux) bx
  obtain ⟨r', hr', ir'⟩ := addI (isF uy) isF0 (by omega) (by decide) (by omega)
  have t3 := place_test (F ux) (F uy) (F_lt _ (by omega)) (F_lt _ (by omega))
  rw [wholeB_int (isF ux) (by omega), wholeB_int (isF uy) (by omega), decide_eq_true bx, decide_eq_true by'] at t3
  have hr64 : r < 2 ^ 64 := by
    have := double.add_lt hr
    exact this
  have t4 := place_test r r' hr64 (isI_lt ir' (by omega))
  rw [hrw] at t4
  have t5 := place_test (F x) 4696837155274620928 (F_lt _ (by omega)) (by decide)
  have e5 : wholeB 4696837155274620928 = false := by rw [wholeB_int isB (by decide)]; decide
  rw [e5, Bool.and_false] at t5
  have T3 := Lib.hid t3
  have T4 := Lib.hid t4
  have T5 := Lib.hid t5
  have hadd : ∀ w, (binOp .add 22 (.complex .f64 (F ux) (F uy)) (.complex .f64 4602678819172646912 0)).run Try.prog w = .ok (.complex .f64 r r') w := fun w => by
    refine run_complex_sum w .add (.inl rfl) _ _ _ _ _ _ _ _ ?_
    have g1 : floatBits .add .f64 (F ux) 4602678819172646912 = some r := hr
    have g2 : floatBits .add .f64 (F uy) 0 = some r' := hr'
    simp [cSumBits, g1, g2]
  have ex : floatOfInt .f64 x = F x := nearest_F _ (by omega)
  clear t3 t4 t5 hr hr' ir' hrw hr64 bx by' e5
  go_enter Try.func6, Try.ntmps6
  go_wp2_with fail
  refine (P.out _).mono ?_
  rintro r w' ⟨rfl, rfl⟩
  go_wp2_with fail
  refine (left_any _).mono ?_
  rintro r w' ⟨rfl, rfl⟩
  go_wp2_with fail
  refine (T1.out _).mono ?_
  rintro r w' ⟨rfl, n1, rfl⟩
  go_wp2_with fail
  refine (T2.out _).mono ?_
  rintro r w' ⟨rfl, rfl⟩
  go_wp2_with fail
  refine (P.out _).mono ?_
  rintro r w' ⟨rfl, rfl⟩
  go_wp2_with fail
  refine (T3.out _).mono ?_
  rintro r w' ⟨rfl, n2, rfl⟩
  go_wp2_with fail
  refine (T4.out _).mono ?_
  rintro r w' ⟨rfl, n3, rfl⟩
  go_wp2_with fail
  refine (T5.out _).mono ?_
  rintro r w' ⟨rfl, n4, rfl⟩
  go_wp2
  go_ret
  exact ⟨rfl, n1 + n2 + n3 + n4, rfl⟩

end Go.Proofs.Ytmfdehbbkeplaaa
