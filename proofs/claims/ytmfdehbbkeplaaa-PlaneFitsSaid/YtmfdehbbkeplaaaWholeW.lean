import Derived.Test.YtmfdehbbkeplaaaLaws
import Derived.Test.YtmfdehbbkeplaaaFlB
import Derived.Laws.BitsAllLaws
namespace Go.Proofs.Ytmfdehbbkeplaaa
open Go.RowKit Go Fl Ieee
attribute [local go_sem] bits_run frombits_run

theorem and_not (b : Nat) (hb : b < 2 ^ 64) : bits .andNot .u64 (b : Int) 9223372036854775808 = ((b % 2 ^ 63 : Nat) : Int) := by
  have h := u64_andNot_nat b 9223372036854775808 (by omega) (by decide)
  have e : b &&& (18446744073709551615 - 9223372036854775808) = b % 2 ^ 63 := Nat.and_two_pow_sub_one_eq_mod b 63
  rw [e] at h
  exact h

theorem abs_any (b : Nat) (hb : b < 2 ^ 64) (w : World) :
    Calls Try.prog 28 #[.float .f64 b] w fun r w' => r = .returned (.float .f64 (b % 2 ^ 63)) ∧ w = w' := by
  have e := and_not b hb
  generalize hc : b % 2 ^ 63 = c at e
  have HC := Lib.hid hc
  clear hc
  go_enter Try.func28, Try.ntmps28
  go_wp2
  go_ret
  exact ⟨rfl, rfl⟩

theorem integral_eq (name : String) (way : Toward) (b : Nat) : Extern.MathFloor.toIntegral name way #[.float .f64 b] = (match double.read b with
    | .nan s t =>
      if double.quiet t = t then pure (.float .f64 b) else do
      let kept ← choose (.extern "math.Floor,Ceil,Trunc,RoundToEven.signallingNaN kept" 2)
      pure (.float .f64 (if kept == 1 then b else double.write (.nan s (double.quiet t))))
    | d => pure (.float .f64 (double.write (d.integral way)))) := rfl

theorem trunc_run (b : Nat) (w : World) : (callFunc 29 #[.float .f64 b]).run Try.prog w = ((Extern.MathFloor.toIntegral "math.archTrunc" .zero #[.float .f64 b]).run Try.prog w).andThen fun v w' => .ok (.value v) w' := by
  rw [run_callFunc_extern (e := Extern.MathFloor.toIntegral "math.archTrunc" .zero) Try.func29 (by kernel_rfl) (by kernel_rfl) (by kernel_rfl) (by kernel_rfl)]

theorem trunc_num {b : Nat} {s : Bool} {m : Nat} {p : Int} (h : double.read b = .number s m p) (w : World) :
    (callFunc 29 #[.float .f64 b]).run Try.prog w = .ok (.value (.float .f64 (double.write (.number s (mags m p / 2 ^ U) 0)))) w := by
  rw [trunc_run, ← whole_part s m p (read_place h)]
  rw [integral_eq, h]
  rfl

theorem trunc_inf {b : Nat} {s : Bool} (h : double.read b = .infinity s) (w : World) :
    (callFunc 29 #[.float .f64 b]).run Try.prog w = .ok (.value (.float .f64 (double.write (.infinity s)))) w := by
  rw [trunc_run]
  rw [integral_eq, h]
  rfl

theorem trunc_nan {b : Nat} {s : Bool} {t : Nat} (h : double.read b = .nan s t) (w : World) :
    ∃ T n, (callFunc 29 #[.float .f64 b]).run Try.prog w = .ok (.value (.float .f64 T)) (w.drewN n) := by
  rw [trunc_run]
  rw [integral_eq, h]
  simp only
  split
  · exact ⟨_, 0, rfl⟩
  · exact ⟨_, 1, rfl⟩

theorem mtrunc_num {b : Nat} {s : Bool} {m : Nat} {p : Int} (h : double.read b = .number s m p) (w : World) :
    Calls Try.prog 27 #[.float .f64 b] w fun r w' => r = .returned (.float .f64 (double.write (.number s (mags m p / 2 ^ U) 0))) ∧ w = w' := by
  have e := trunc_num h
  generalize double.write (.number s (mags m p / 2 ^ U) 0) = c at *
  clear h
  go_enter Try.func27, Try.ntmps27
  go_wp2
  go_ret
  exact ⟨rfl, rfl⟩

theorem mtrunc_inf {b : Nat} {s : Bool} (h : double.read b = .infinity s) (w : World) :
    Calls Try.prog 27 #[.float .f64 b] w fun r w' => r = .returned (.float .f64 (double.write (.infinity s))) ∧ w = w' := by
  have e := trunc_inf h
  generalize double.write (.infinity s) = c at *
  clear h
  go_enter Try.func27, Try.ntmps27
  go_wp2
  go_ret
  exact ⟨rfl, rfl⟩

theorem mtrunc_nan {b : Nat} {s : Bool} {t : Nat} (h : double.read b = .nan s t) (w : World) :
    Calls Try.prog 27 #[.float .f64 b] w fun r w' => ∃ T n, r = .returned (.float .f64 T) ∧ w' = w.drewN n := by
  obtain ⟨T, n, e⟩ := trunc_nan h w
  clear h
  go_enter Try.func27, Try.ntmps27
  go_wp2
  go_ret
  exact ⟨T, n, rfl, rfl⟩
end Go.Proofs.Ytmfdehbbkeplaaa
