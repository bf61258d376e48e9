import Derived.Test.YtfkcpooljkpfpaaFiveW
namespace Go.Proofs.Ytfkcpooljkpfpaa
open Go.RowKit Go

theorem rendNil_any (w : World) : Calls Try.prog 19 #[.pointer none] w fun e w' => e = .returned (.bool false) ∧ w' = w := by
  go_enter Try.func19, Try.ntmps19
  go_wp2_with fail
  refine (leftNil_any _).mono ?_
  rintro e w1 ⟨rfl, rfl⟩
  go_wp2_with fail
  refine (okNil_any _).mono ?_
  rintro e w1 ⟨rfl, rfl⟩
  go_wp2
  go_ret
  exact ⟨rfl, rfl⟩

set_option maxRecDepth 20000 in
set_option maxHeartbeats 4000000 in
theorem bitsNil_any (n width : Int) (w : World) : Calls Try.prog 8 #[.int .u64 n, .int .i64 width] w fun e w' => e = .returned (.bool true) ∧ Fr No w w' := by
  go_enter Try.func8, Try.ntmps8
  go_wp2_with fail
  refine (five_any _).mono ?_
  rintro e w1 ⟨rfl, F1⟩
  go_wp2_with fail
  refine (putNil_any _ _ _).mono ?_
  rintro e w2 ⟨rfl, rfl⟩
  go_wp2_with fail
  refine (flagNil_any _ _).mono ?_
  rintro e w3 ⟨rfl, rfl⟩
  go_wp2_with fail
  refine (lenNil_any _).mono ?_
  rintro e w4 ⟨rfl, rfl⟩
  go_wp2_with fail
  refine (wbytesNil_any _).mono ?_
  rintro e w5 ⟨rfl, rfl⟩
  go_wp2_with fail
  refine (getNil_any _ _).mono ?_
  rintro e w6 ⟨rfl, rfl⟩
  go_wp2_with fail
  refine (rflagNil_any _).mono ?_
  rintro e w7 ⟨rfl, rfl⟩
  go_wp2_with fail
  refine (leftNil_any _).mono ?_
  rintro e w8 ⟨rfl, rfl⟩
  go_wp2_with fail
  refine (okNil_any _).mono ?_
  rintro e w9 ⟨rfl, rfl⟩
  go_wp2_with fail
  refine (rendNil_any _).mono ?_
  rintro e wa ⟨rfl, rfl⟩
  go_wp2
  go_ret
  exact ⟨rfl, F1⟩
end Go.Proofs.Ytfkcpooljkpfpaa
