import Derived.Test.YtfnlimcgoeknjaaNumP
import Derived.Test.YtfnlimcgoeknjaaAllocR
import Derived.Test.YtfnlimcgoeknjaaRefT
namespace Go.Proofs.Ytfnlimcgoeknjaa
open Go.RowKit Go Fl

theorem tmod_bd (x : Int) : (x.tmod 1000001).natAbs ≤ 1000000 := by
  rw [Int.natAbs_tmod]
  have := Nat.mod_lt x.natAbs (show 0 < 1000001 by omega)
  exact Nat.le_of_lt_succ this

set_option linter.unusedSimpArgs false in
set_option maxRecDepth 20000 in
set_option maxHeartbeats 8000000 in
theorem layoutNumbers_any {T : Option Addr} {ct : Nat} {tm : List Int} {w : World} (x y n a b : Int) (hT : Rd w T (ints .i64 tm)) :
    Calls Try.prog 5 #[.int .i32 x, .int .i32 y, .int .i64 n, .int .i64 a, .int .i64 b, .slice T tm.length ct] w fun e w' => e = .returned (.bool true) ∧ Fr No w w' := by
  have HT := Lib.hid hT
  have hlen := hT.1
  rw [ints_length] at hlen
  by_cases h4 : tm.length < 4
  · have i4 : (tm.length : Int) < 4 := by omega
    clear hT
    go_enter Try.func5, Try.ntmps5
    go_wp2_with fail
    refine (bare_law _).mono ?_
    rintro e w1 ⟨rfl, F1⟩
    go_wp2_with fail
    refine (bare_law _).mono ?_
    rintro e w2 ⟨rfl, F2⟩
    go_wp2
    go_ret
    exact ⟨rfl, F1.trans F2 (fun _ k => k.elim)⟩
  · have i4 : ¬ (tm.length : Int) < 4 := by omega
    obtain ⟨ad, rfl, c0⟩ := hT.int (show 0 < tm.length by omega)
    obtain ⟨_, e1, c1⟩ := hT.int (show 1 < tm.length by omega)
    cases e1
    obtain ⟨_, e2, c2⟩ := hT.int (show 2 < tm.length by omega)
    cases e2
    obtain ⟨_, e3, c3⟩ := hT.int (show 3 < tm.length by omega)
    cases e3
    obtain ⟨t0, ht0⟩ : ∃ t, tm.getD 0 0 = t := ⟨_, rfl⟩
    obtain ⟨t1, ht1⟩ : ∃ t, tm.getD 1 0 = t := ⟨_, rfl⟩
    obtain ⟨t2, ht2⟩ : ∃ t, tm.getD 2 0 = t := ⟨_, rfl⟩
    obtain ⟨t3, ht3⟩ : ∃ t, tm.getD 3 0 = t := ⟨_, rfl⟩
    rw [ht0] at c0
    rw [ht1] at c1
    rw [ht2] at c2
    rw [ht3] at c3
    clear ht0 ht1 ht2 ht3 hT
    obtain ⟨px, hpx⟩ : ∃ p, x.tmod 1000001 = p := ⟨_, rfl⟩
    obtain ⟨py, hpy⟩ : ∃ p, y.tmod 1000001 = p := ⟨_, rfl⟩
    have bx : px.natAbs ≤ 1000000 := by rw [← hpx]; exact tmod_bd x
    have by' : py.natAbs ≤ 1000000 := by rw [← hpy]; exact tmod_bd y
    have fx : floatOfInt .f64 px = F px := nearest_F _ (by omega)
    have fy : floatOfInt .f64 py = F py := nearest_F _ (by omega)
    obtain ⟨vx, hvx⟩ : ∃ v, F px = v := ⟨_, rfl⟩
    obtain ⟨vy, hvy⟩ : ∃ v, F py = v := ⟨_, rfl⟩
    rw [hvx] at fx
    rw [hvy] at fy
    have HVX := Lib.hid hvx
    have HVY := Lib.hid hvy
    have jl0 : 0 < tm.length := by omega
    have jl1 : 1 < tm.length := by omega
    have jl2 : 2 < tm.length := by omega
    have jl3 : 3 < tm.length := by omega
    have ea0 : ad.add 0 = ad := by unfold Addr.add; simp
    have ea1 : ad.add 1 = ⟨ad.block, ad.off + 1, none⟩ := by have := add_next ad 0 0; rwa [ea0] at this
    have ea2 : ad.add 2 = ⟨ad.block, ad.off + 2, none⟩ := by have := add_next ad 0 1; rwa [ea0] at this
    have ea3 : ad.add 3 = ⟨ad.block, ad.off + 3, none⟩ := by have := add_next ad 0 2; rwa [ea0] at this
    rw [ea0] at c0
    rw [ea1] at c1
    rw [ea2] at c2
    rw [ea3] at c3
    clear ea0 ea1 ea2 ea3
    have il0 : (0 : Int) < (tm.length : Int) := by omega
    have il1 : (1 : Int) < (tm.length : Int) := by omega
    have il2 : (2 : Int) < (tm.length : Int) := by omega
    have il3 : (3 : Int) < (tm.length : Int) := by omega
    have hwx : IntKind.i32.wrap px = px := by rw [IntKind.wrap_i32]; omega
    have hwy : IntKind.i32.wrap py = py := by rw [IntKind.wrap_i32]; omega
    clear hvx hvy
    go_enter Try.func5, Try.ntmps5
    go_wp2_with fail
    refine (bare_law _).mono ?_
    rintro e w1 ⟨rfl, F1⟩
    have KC : Hid (∀ W, Fr No w1 W → W.cell? ad = some (.int .i64 t0) ∧ W.cell? ⟨ad.block, ad.off + 1, none⟩ = some (.int .i64 t1) ∧ W.cell? ⟨ad.block, ad.off + 2, none⟩ = some (.int .i64 t2) ∧ W.cell? ⟨ad.block, ad.off + 3, none⟩ = some (.int .i64 t3)) := by
      show ∀ W, _
      intro W hW
      have f := F1.trans hW (fun _ k => k.elim)
      exact ⟨f.cell c0 (fun k => k), f.cell c1 (fun k => k), f.cell c2 (fun k => k), f.cell c3 (fun k => k)⟩
    go_upto_region 3 with (fail)
    refine wp_region_noPanic ?_
    refine heldZ_start (fun W => W.cell? ad = some (.int .i64 t0) ∧ W.cell? ⟨ad.block, ad.off + 1, none⟩ = some (.int .i64 t1) ∧ W.cell? ⟨ad.block, ad.off + 2, none⟩ = some (.int .i64 t2) ∧ W.cell? ⟨ad.block, ad.off + 3, none⟩ = some (.int .i64 t3)) 41 (by kernel_rfl) ?_
    have HS0 := KC.out _ ((Fr.refl No w1).drew)
    (refine heldZ_take 0 25 (v := ?_) rfl rfl (by kernel_rfl) (by kernel_rfl) (by kernel_rfl) (by kernel_rfl) (fun _ _ _ h => h) HS0 (by rfl) ?_ ?_; rotate_left; (intro w hSw; (try dsimp only at hSw); go_simp; try with_reducible rfl); try simp only [Act.put, List.setIfInBounds_toArray, List.set_cons_zero, List.set_cons_succ])
    (refine heldZ_take 1 26 (v := ?_) rfl rfl (by kernel_rfl) (by kernel_rfl) (by kernel_rfl) (by kernel_rfl) (fun _ _ _ h => h) HS0 (by rfl) ?_ ?_; rotate_left; (intro w hSw; (try dsimp only at hSw); go_simp; try with_reducible rfl); try simp only [Act.put, List.setIfInBounds_toArray, List.set_cons_zero, List.set_cons_succ])
    (refine heldZ_take 2 27 (v := ?_) rfl rfl (by kernel_rfl) (by kernel_rfl) (by kernel_rfl) (by kernel_rfl) (fun _ _ _ h => h) HS0 (by rfl) ?_ ?_; rotate_left; (intro w hSw; (try dsimp only at hSw); go_simp; try with_reducible rfl); try simp only [Act.put, List.setIfInBounds_toArray, List.set_cons_zero, List.set_cons_succ])
    (refine heldZ_take 3 28 (v := ?_) rfl rfl (by kernel_rfl) (by kernel_rfl) (by kernel_rfl) (by kernel_rfl) (fun _ _ _ h => h) HS0 (by rfl) ?_ ?_; rotate_left; (intro w hSw; (try dsimp only at hSw); go_simp; try with_reducible rfl); try simp only [Act.put, List.setIfInBounds_toArray, List.set_cons_zero, List.set_cons_succ])
    (refine heldZ_take 4 29 (v := ?_) rfl rfl (by kernel_rfl) (by kernel_rfl) (by kernel_rfl) (by kernel_rfl) (fun _ _ _ h => h) HS0 (by rfl) ?_ ?_; rotate_left; (intro w hSw; (try dsimp only at hSw); go_simp; try with_reducible rfl); try simp only [Act.put, List.setIfInBounds_toArray, List.set_cons_zero, List.set_cons_succ])
    (refine heldZ_take 5 30 (v := ?_) rfl rfl (by kernel_rfl) (by kernel_rfl) (by kernel_rfl) (by kernel_rfl) (fun _ _ _ h => h) HS0 (by rfl) ?_ ?_; rotate_left; (intro w hSw; (try dsimp only at hSw); go_simp; try with_reducible rfl); try simp only [Act.put, List.setIfInBounds_toArray, List.set_cons_zero, List.set_cons_succ])
    (refine heldZ_take 6 31 (v := ?_) rfl rfl (by kernel_rfl) (by kernel_rfl) (by kernel_rfl) (by kernel_rfl) (fun _ _ _ h => h) HS0 (by rfl) ?_ ?_; rotate_left; (intro w hSw; (try dsimp only at hSw); go_simp; try with_reducible rfl); try simp only [Act.put, List.setIfInBounds_toArray, List.set_cons_zero, List.set_cons_succ])
    (refine heldZ_take 8 33 (v := ?_) rfl rfl (by kernel_rfl) (by kernel_rfl) (by kernel_rfl) (by kernel_rfl) (fun _ _ _ h => h) HS0 (by rfl) ?_ ?_; rotate_left; (intro w hSw; (try dsimp only at hSw); go_simp; try with_reducible rfl); try simp only [Act.put, List.setIfInBounds_toArray, List.set_cons_zero, List.set_cons_succ])
    (refine heldZ_take 9 34 (v := ?_) rfl rfl (by kernel_rfl) (by kernel_rfl) (by kernel_rfl) (by kernel_rfl) (fun _ _ _ h => h) HS0 (by rfl) ?_ ?_; rotate_left; (intro w hSw; (try dsimp only at hSw); go_simp; try with_reducible rfl); try simp only [Act.put, List.setIfInBounds_toArray, List.set_cons_zero, List.set_cons_succ])
    (refine heldZ_take 10 35 (v := ?_) rfl rfl (by kernel_rfl) (by kernel_rfl) (by kernel_rfl) (by kernel_rfl) (fun _ _ _ h => h) HS0 (by rfl) ?_ ?_; rotate_left; (intro w hSw; (try dsimp only at hSw); go_simp; try with_reducible rfl); try simp only [Act.put, List.setIfInBounds_toArray, List.set_cons_zero, List.set_cons_succ])
    (refine heldZ_take 11 36 (v := ?_) rfl rfl (by kernel_rfl) (by kernel_rfl) (by kernel_rfl) (by kernel_rfl) (fun _ _ _ h => h) HS0 (by rfl) ?_ ?_; rotate_left; (intro w hSw; (try dsimp only at hSw); go_simp; try with_reducible rfl); try simp only [Act.put, List.setIfInBounds_toArray, List.set_cons_zero, List.set_cons_succ])
    (refine heldZ_take 13 38 (v := ?_) rfl rfl (by kernel_rfl) (by kernel_rfl) (by kernel_rfl) (by kernel_rfl) (fun _ _ _ h => h) HS0 (by rfl) ?_ ?_; rotate_left; (intro w hSw; (try dsimp only at hSw); go_simp; try with_reducible rfl); try simp only [Act.put, List.setIfInBounds_toArray, List.set_cons_zero, List.set_cons_succ])
    (refine heldZ_take 14 39 (v := ?_) rfl rfl (by kernel_rfl) (by kernel_rfl) (by kernel_rfl) (by kernel_rfl) (fun _ _ _ h => h) HS0 (by rfl) ?_ ?_; rotate_left; (intro w hSw; (try dsimp only at hSw); go_simp; try with_reducible rfl); try simp only [Act.put, List.setIfInBounds_toArray, List.set_cons_zero, List.set_cons_succ])
    (refine heldZ_take 17 42 (v := ?_) rfl rfl (by kernel_rfl) (by kernel_rfl) (by kernel_rfl) (by kernel_rfl) (fun _ _ _ h => h) HS0 (by rfl) ?_ ?_; rotate_left; (intro w hSw; (try dsimp only at hSw); go_simp; try with_reducible rfl); try simp only [Act.put, List.setIfInBounds_toArray, List.set_cons_zero, List.set_cons_succ])
    (refine heldZ_take 18 43 (v := ?_) rfl rfl (by kernel_rfl) (by kernel_rfl) (by kernel_rfl) (by kernel_rfl) (fun _ _ _ h => h) HS0 (by rfl) ?_ ?_; rotate_left; (intro w hSw; (try dsimp only at hSw); go_simp; try with_reducible rfl); try simp only [Act.put, List.setIfInBounds_toArray, List.set_cons_zero, List.set_cons_succ])
    (refine heldZ_take 19 44 (v := ?_) rfl rfl (by kernel_rfl) (by kernel_rfl) (by kernel_rfl) (by kernel_rfl) (fun _ _ _ h => h) HS0 (by rfl) ?_ ?_; rotate_left; (intro w hSw; (try dsimp only at hSw); go_simp; try with_reducible rfl); try simp only [Act.put, List.setIfInBounds_toArray, List.set_cons_zero, List.set_cons_succ])
    (refine heldZ_take 20 45 (v := ?_) rfl rfl (by kernel_rfl) (by kernel_rfl) (by kernel_rfl) (by kernel_rfl) (fun _ _ _ h => h) HS0 (by rfl) ?_ ?_; rotate_left; (intro w hSw; (try dsimp only at hSw); go_simp; try with_reducible rfl); try simp only [Act.put, List.setIfInBounds_toArray, List.set_cons_zero, List.set_cons_succ])
    (refine heldZ_take 21 46 (v := ?_) rfl rfl (by kernel_rfl) (by kernel_rfl) (by kernel_rfl) (by kernel_rfl) (fun _ _ _ h => h) HS0 (by rfl) ?_ ?_; rotate_left; (intro w hSw; (try dsimp only at hSw); go_simp; try with_reducible rfl); try simp only [Act.put, List.setIfInBounds_toArray, List.set_cons_zero, List.set_cons_succ])
    (refine heldZ_take 23 48 (v := ?_) rfl rfl (by kernel_rfl) (by kernel_rfl) (by kernel_rfl) (by kernel_rfl) (fun _ _ _ h => h) HS0 (by rfl) ?_ ?_; rotate_left; (intro w hSw; (try dsimp only at hSw); go_simp; try with_reducible rfl); try simp only [Act.put, List.setIfInBounds_toArray, List.set_cons_zero, List.set_cons_succ])
    (refine heldZ_take 26 51 (v := ?_) rfl rfl (by kernel_rfl) (by kernel_rfl) (by kernel_rfl) (by kernel_rfl) (fun _ _ _ h => h) HS0 (by rfl) ?_ ?_; rotate_left; (intro w hSw; (try dsimp only at hSw); go_simp; try with_reducible rfl); try simp only [Act.put, List.setIfInBounds_toArray, List.set_cons_zero, List.set_cons_succ])
    (refine heldZ_take 27 52 (v := ?_) rfl rfl (by kernel_rfl) (by kernel_rfl) (by kernel_rfl) (by kernel_rfl) (fun _ _ _ h => h) HS0 (by rfl) ?_ ?_; rotate_left; (intro w hSw; (try dsimp only at hSw); go_simp; try with_reducible rfl); try simp only [Act.put, List.setIfInBounds_toArray, List.set_cons_zero, List.set_cons_succ])
    (refine heldZ_take 28 53 (v := ?_) rfl rfl (by kernel_rfl) (by kernel_rfl) (by kernel_rfl) (by kernel_rfl) (fun _ _ _ h => h) HS0 (by rfl) ?_ ?_; rotate_left; (intro w hSw; (try dsimp only at hSw); go_simp; try with_reducible rfl); try simp only [Act.put, List.setIfInBounds_toArray, List.set_cons_zero, List.set_cons_succ])
    (refine heldZ_take 29 54 (v := ?_) rfl rfl (by kernel_rfl) (by kernel_rfl) (by kernel_rfl) (by kernel_rfl) (fun _ _ _ h => h) HS0 (by rfl) ?_ ?_; rotate_left; (intro w hSw; (try dsimp only at hSw); go_simp; try with_reducible rfl); try simp only [Act.put, List.setIfInBounds_toArray, List.set_cons_zero, List.set_cons_succ])
    (refine heldZ_take 30 55 (v := ?_) rfl rfl (by kernel_rfl) (by kernel_rfl) (by kernel_rfl) (by kernel_rfl) (fun _ _ _ h => h) HS0 (by rfl) ?_ ?_; rotate_left; (intro w hSw; (try dsimp only at hSw); go_simp; try with_reducible rfl); try simp only [Act.put, List.setIfInBounds_toArray, List.set_cons_zero, List.set_cons_succ])
    (refine heldZ_take 31 56 (v := ?_) rfl rfl (by kernel_rfl) (by kernel_rfl) (by kernel_rfl) (by kernel_rfl) (fun _ _ _ h => h) HS0 (by rfl) ?_ ?_; rotate_left; (intro w hSw; (try dsimp only at hSw); go_simp; try with_reducible rfl); try simp only [Act.put, List.setIfInBounds_toArray, List.set_cons_zero, List.set_cons_succ])
    (refine heldZ_take 32 57 (v := ?_) rfl rfl (by kernel_rfl) (by kernel_rfl) (by kernel_rfl) (by kernel_rfl) (fun _ _ _ h => h) HS0 (by rfl) ?_ ?_; rotate_left; (intro w hSw; (try dsimp only at hSw); go_simp; try with_reducible rfl); try simp only [Act.put, List.setIfInBounds_toArray, List.set_cons_zero, List.set_cons_succ])
    (refine heldZ_take 33 58 (v := ?_) rfl rfl (by kernel_rfl) (by kernel_rfl) (by kernel_rfl) (by kernel_rfl) (fun _ _ _ h => h) HS0 (by rfl) ?_ ?_; rotate_left; (intro w hSw; (try dsimp only at hSw); go_simp; try with_reducible rfl); try simp only [Act.put, List.setIfInBounds_toArray, List.set_cons_zero, List.set_cons_succ])
    (refine heldZ_take 34 59 (v := ?_) rfl rfl (by kernel_rfl) (by kernel_rfl) (by kernel_rfl) (by kernel_rfl) (fun _ _ _ h => h) HS0 (by rfl) ?_ ?_; rotate_left; (intro w hSw; (try dsimp only at hSw); go_simp; try with_reducible rfl); try simp only [Act.put, List.setIfInBounds_toArray, List.set_cons_zero, List.set_cons_succ])
    (refine heldZ_take 35 60 (v := ?_) rfl rfl (by kernel_rfl) (by kernel_rfl) (by kernel_rfl) (by kernel_rfl) (fun _ _ _ h => h) HS0 (by rfl) ?_ ?_; rotate_left; (intro w hSw; (try dsimp only at hSw); go_simp; try with_reducible rfl); try simp only [Act.put, List.setIfInBounds_toArray, List.set_cons_zero, List.set_cons_succ])
    (refine heldZ_take 36 61 (v := ?_) rfl rfl (by kernel_rfl) (by kernel_rfl) (by kernel_rfl) (by kernel_rfl) (fun _ _ _ h => h) HS0 (by rfl) ?_ ?_; rotate_left; (intro w hSw; (try dsimp only at hSw); go_simp; try with_reducible rfl); try simp only [Act.put, List.setIfInBounds_toArray, List.set_cons_zero, List.set_cons_succ])
    (refine heldZ_take 37 62 (v := ?_) rfl rfl (by kernel_rfl) (by kernel_rfl) (by kernel_rfl) (by kernel_rfl) (fun _ _ _ h => h) HS0 (by rfl) ?_ ?_; rotate_left; (intro w hSw; (try dsimp only at hSw); go_simp; try with_reducible rfl); try simp only [Act.put, List.setIfInBounds_toArray, List.set_cons_zero, List.set_cons_succ])
    (refine heldZ_take 38 63 (v := ?_) rfl rfl (by kernel_rfl) (by kernel_rfl) (by kernel_rfl) (by kernel_rfl) (fun _ _ _ h => h) HS0 (by rfl) ?_ ?_; rotate_left; (intro w hSw; (try dsimp only at hSw); go_simp; try with_reducible rfl); try simp only [Act.put, List.setIfInBounds_toArray, List.set_cons_zero, List.set_cons_succ])
    refine heldZ_allocs [⟨7, 32, true, fun _ => #[.complex .f64 vx vy], 45, fun g _ => .slice (some ⟨g, 0, none⟩) 1 1⟩,
      ⟨12, 37, true, fun _ => #[.int .i64 n, .int .i64 a, .int .i64 b], 48, fun g _ => .slice (some ⟨g, 0, none⟩) 1 1⟩,
      ⟨15, 40, true, fun _ => #[.int .i64 a, .int .i64 b], 3, fun g _ => .slice (some ⟨g, 0, none⟩) 2 2⟩,
      ⟨16, 41, true, fun f => #[f 40, .slice none 0 0], 49, fun g _ => .slice (some ⟨g, 0, none⟩) 2 2⟩,
      ⟨22, 47, true, fun _ => #[.int .i64 b, .int .i64 a, .int .i64 n, .int .i64 b], 51, fun g _ => .slice (some ⟨g, 0, none⟩) 1 1⟩,
      ⟨24, 49, true, fun _ => #[.int .i64 n], 3, fun g _ => .slice (some ⟨g, 0, none⟩) 1 1⟩,
      ⟨25, 50, true, fun f => #[f 49], 49, fun g _ => .slice (some ⟨g, 0, none⟩) 1 1⟩,
      ⟨40, 13, true, fun _ => #[.slice none 0 0, .slice none 0 0, .slice none 0 0, .slice none 0 0, .slice none 0 0, .int .i64 0, .int .i64 0, .int .i64 0, .int .i64 0, .int .i64 0], 38, fun g _ => .pointer (some ⟨g, 0, none⟩)⟩,
      ⟨39, 64, false, fun _ => #[], 0, fun _ f => .agg #[f 32, f 37, f 41, f 47, f 50, .int .i64 b, .int .i64 t0, .int .i64 t1, .int .i64 t2, .int .i64 t3]⟩]
      (fun f => (⟨#[Value.int IntKind.i32 x, Value.int IntKind.i32 y, Value.int IntKind.i64 n, Value.int IntKind.i64 a, Value.int IntKind.i64 b, Value.slice (some ad) tm.length ct, undef, undef, undef, undef, undef, undef, Value.bool false, f 13, undef, undef, undef, Value.bool true, Value.bool false, Value.bool false, Value.slice (some ad) tm.length ct, Value.int IntKind.i64 (tm.length : Int), Value.bool (decide ((tm.length : Int) < 4)), Value.bool (decide ((tm.length : Int) < 4)), undef, Value.int IntKind.i32 x, Value.int IntKind.i32 px, Value.float FloatKind.f64 vx, Value.int IntKind.i32 y, Value.int IntKind.i32 py, Value.float FloatKind.f64 vy, Value.complex FloatKind.f64 vx vy, f 32, Value.int IntKind.i64 n, Value.int IntKind.i64 a, Value.int IntKind.i64 b, Value.agg #[Value.int IntKind.i64 n, Value.int IntKind.i64 a, Value.int IntKind.i64 b], f 37, Value.int IntKind.i64 a, Value.int IntKind.i64 b, f 40, f 41, Value.int IntKind.i64 b, Value.int IntKind.i64 a, Value.int IntKind.i64 n, Value.int IntKind.i64 b, Value.agg #[Value.int IntKind.i64 b, Value.int IntKind.i64 a, Value.int IntKind.i64 n, Value.int IntKind.i64 b], f 47, Value.int IntKind.i64 n, f 49, f 50, Value.int IntKind.i64 b, Value.slice (some ad) tm.length ct, Value.pointer (some ad), Value.int IntKind.i64 t0, Value.slice (some ad) tm.length ct, Value.pointer (some ⟨ad.block, ad.off + 1, none⟩), Value.int IntKind.i64 t1, Value.slice (some ad) tm.length ct, Value.pointer (some ⟨ad.block, ad.off + 2, none⟩), Value.int IntKind.i64 t2, Value.slice (some ad) tm.length ct, Value.pointer (some ⟨ad.block, ad.off + 3, none⟩), Value.int IntKind.i64 t3, f 64, undef, undef, undef, undef, undef, undef, undef, undef, undef, undef, undef, undef, undef, undef, undef, undef, undef, undef, undef, undef, undef, undef, undef, undef, undef, undef, undef, undef, undef, undef, undef, undef, undef, undef, undef, undef], []⟩ : Act)) (fun _ => undef) w1.drew ?hops ?hz ?hdep ?hself ?huniq ?hiz ?hzl ?hS ?hdone ?hcl ?hrest ?hnot ?hN ?hah
    case hzl => exact of_decide_eq_true (by kernel_rfl)
    case hdone => kernel_rfl
    case hcl => kernel_rfl
    case hN => kernel_rfl
    case hah => kernel_rfl
    case hS => exact fun w hF => KC.out _ ⟨hF.os, hF.tape, hF.output, hF.size, hF.block⟩
    case hself =>
      intro sp hsp f v
      simp only [List.mem_cons, List.not_mem_nil, or_false] at hsp
      rcases hsp with rfl | rfl | rfl | rfl | rfl | rfl | rfl | rfl | rfl <;> exact ⟨rfl, fun _ => rfl⟩
    case hiz =>
      intro sp hsp
      simp only [List.mem_cons, List.not_mem_nil, or_false] at hsp
      rcases hsp with rfl | rfl | rfl | rfl | rfl | rfl | rfl | rfl | rfl <;> exact ⟨by simp, of_decide_eq_true (by kernel_rfl)⟩
    case hnot =>
      refine ⟨fun sp hsp => ?_, by kernel_rfl⟩
      simp only [List.mem_cons, List.not_mem_nil, or_false] at hsp
      rcases hsp with rfl | rfl | rfl | rfl | rfl | rfl | rfl | rfl | rfl <;> kernel_rfl
    case huniq =>
      intro sp hsp sp' hsp' h
      simp only [List.mem_cons, List.not_mem_nil, or_false] at hsp
      simp only [List.mem_cons, List.not_mem_nil, or_false] at hsp'
      rcases hsp with rfl | rfl | rfl | rfl | rfl | rfl | rfl | rfl | rfl <;> rcases hsp' with rfl | rfl | rfl | rfl | rfl | rfl | rfl | rfl | rfl <;> first | rfl | (simp at h)
    case hdep =>
      intro sp hsp sp' hsp' h
      simp only [List.mem_cons, List.not_mem_nil, or_false] at hsp
      simp only [List.mem_cons, List.not_mem_nil, or_false] at hsp'
      rcases hsp with rfl | rfl | rfl | rfl | rfl | rfl | rfl | rfl | rfl <;> rcases hsp' with rfl | rfl | rfl | rfl | rfl | rfl | rfl | rfl | rfl <;> first | exact absurd rfl h | exact ⟨by simp, .inl fun f v => ⟨rfl, fun _ => rfl⟩⟩ | exact ⟨by simp, .inr (dep_of (by kernel_rfl))⟩
    case hrest => exact rest_of [7, 12, 15, 16, 22, 24, 25, 40, 39] rfl (by kernel_rfl)
    case hops =>
      intro sp hsp
      simp only [List.mem_cons, List.not_mem_nil, or_false] at hsp
      rcases hsp with rfl | rfl | rfl | rfl | rfl | rfl | rfl | rfl | rfl
      · refine ⟨_, rfl, rfl, fun f w K hF hG hK => ?_⟩
        simp only [updV, Nat.reduceEqDiff, ↓reduceIte] at hK
        dsimp only
        go_simp
        exact hK
      · refine ⟨_, rfl, rfl, fun f w K hF hG hK => ?_⟩
        simp only [updV, Nat.reduceEqDiff, ↓reduceIte] at hK
        dsimp only
        go_simp
        exact hK
      · refine ⟨_, rfl, rfl, fun f w K hF hG hK => ?_⟩
        simp only [updV, Nat.reduceEqDiff, ↓reduceIte] at hK
        dsimp only
        go_simp
        exact hK
      · refine ⟨_, rfl, rfl, fun f w K hF hG hK => ?_⟩
        obtain ⟨g15, h40, b40⟩ := hG (⟨15, 40, true, fun _ => #[.int .i64 a, .int .i64 b], 3, fun g _ => .slice (some ⟨g, 0, none⟩) 2 2⟩ : Sp) (by simp only [List.mem_cons, true_or, or_true]) (dep_op (by kernel_rfl))
        dsimp only at h40 b40
        simp only [updV, Nat.reduceEqDiff, ↓reduceIte] at hK
        dsimp only
        rw [h40] at hK ⊢
        go_simp
        exact hK
      · refine ⟨_, rfl, rfl, fun f w K hF hG hK => ?_⟩
        simp only [updV, Nat.reduceEqDiff, ↓reduceIte] at hK
        dsimp only
        go_simp
        exact hK
      · refine ⟨_, rfl, rfl, fun f w K hF hG hK => ?_⟩
        simp only [updV, Nat.reduceEqDiff, ↓reduceIte] at hK
        dsimp only
        go_simp
        exact hK
      · refine ⟨_, rfl, rfl, fun f w K hF hG hK => ?_⟩
        obtain ⟨g24, h49, b49⟩ := hG (⟨24, 49, true, fun _ => #[.int .i64 n], 3, fun g _ => .slice (some ⟨g, 0, none⟩) 1 1⟩ : Sp) (by simp only [List.mem_cons, true_or, or_true]) (dep_op (by kernel_rfl))
        dsimp only at h49 b49
        simp only [updV, Nat.reduceEqDiff, ↓reduceIte] at hK
        dsimp only
        rw [h49] at hK ⊢
        go_simp
        exact hK
      · refine ⟨_, rfl, rfl, fun f w K hF hG hK => ?_⟩
        simp only [updV, Nat.reduceEqDiff, ↓reduceIte] at hK
        dsimp only
        go_simp
        exact hK
      · refine ⟨_, rfl, rfl, fun f w K hF hG hK => ?_⟩
        obtain ⟨g7, h32, b32⟩ := hG (⟨7, 32, true, fun _ => #[.complex .f64 vx vy], 45, fun g _ => .slice (some ⟨g, 0, none⟩) 1 1⟩ : Sp) (by simp only [List.mem_cons, true_or, or_true]) (dep_op (by kernel_rfl))
        dsimp only at h32 b32
        obtain ⟨g12, h37, b37⟩ := hG (⟨12, 37, true, fun _ => #[.int .i64 n, .int .i64 a, .int .i64 b], 48, fun g _ => .slice (some ⟨g, 0, none⟩) 1 1⟩ : Sp) (by simp only [List.mem_cons, true_or, or_true]) (dep_op (by kernel_rfl))
        dsimp only at h37 b37
        obtain ⟨g16, h41, b41⟩ := hG (⟨16, 41, true, fun f => #[f 40, .slice none 0 0], 49, fun g _ => .slice (some ⟨g, 0, none⟩) 2 2⟩ : Sp) (by simp only [List.mem_cons, true_or, or_true]) (dep_op (by kernel_rfl))
        dsimp only at h41 b41
        obtain ⟨g22, h47, b47⟩ := hG (⟨22, 47, true, fun _ => #[.int .i64 b, .int .i64 a, .int .i64 n, .int .i64 b], 51, fun g _ => .slice (some ⟨g, 0, none⟩) 1 1⟩ : Sp) (by simp only [List.mem_cons, true_or, or_true]) (dep_op (by kernel_rfl))
        dsimp only at h47 b47
        obtain ⟨g25, h50, b50⟩ := hG (⟨25, 50, true, fun f => #[f 49], 49, fun g _ => .slice (some ⟨g, 0, none⟩) 1 1⟩ : Sp) (by simp only [List.mem_cons, true_or, or_true]) (dep_op (by kernel_rfl))
        dsimp only at h50 b50
        simp only [updV, Nat.reduceEqDiff, ↓reduceIte] at hK
        dsimp only
        rw [h32, h37, h41, h47, h50] at hK ⊢
        go_simp
        exact hK
    case hz =>
      refine ⟨_, rfl, rfl, fun sp hsp => ?_, fun f w2 K hF hG hK => ?_⟩
      · simp only [List.mem_cons, List.not_mem_nil, or_false] at hsp
        rcases hsp with rfl | rfl | rfl | rfl | rfl | rfl | rfl | rfl | rfl <;> exact dep_op (by kernel_rfl)
      obtain ⟨g7, h32, b32⟩ := hG (⟨7, 32, true, fun _ => #[.complex .f64 vx vy], 45, fun g _ => .slice (some ⟨g, 0, none⟩) 1 1⟩ : Sp) (by simp only [List.mem_cons, true_or, or_true])
      dsimp only at h32 b32
      obtain ⟨g12, h37, b37⟩ := hG (⟨12, 37, true, fun _ => #[.int .i64 n, .int .i64 a, .int .i64 b], 48, fun g _ => .slice (some ⟨g, 0, none⟩) 1 1⟩ : Sp) (by simp only [List.mem_cons, true_or, or_true])
      dsimp only at h37 b37
      obtain ⟨g15, h40, b40⟩ := hG (⟨15, 40, true, fun _ => #[.int .i64 a, .int .i64 b], 3, fun g _ => .slice (some ⟨g, 0, none⟩) 2 2⟩ : Sp) (by simp only [List.mem_cons, true_or, or_true])
      dsimp only at h40 b40
      obtain ⟨g16, h41, b41⟩ := hG (⟨16, 41, true, fun f => #[f 40, .slice none 0 0], 49, fun g _ => .slice (some ⟨g, 0, none⟩) 2 2⟩ : Sp) (by simp only [List.mem_cons, true_or, or_true])
      dsimp only at h41 b41
      obtain ⟨g22, h47, b47⟩ := hG (⟨22, 47, true, fun _ => #[.int .i64 b, .int .i64 a, .int .i64 n, .int .i64 b], 51, fun g _ => .slice (some ⟨g, 0, none⟩) 1 1⟩ : Sp) (by simp only [List.mem_cons, true_or, or_true])
      dsimp only at h47 b47
      obtain ⟨g24, h49, b49⟩ := hG (⟨24, 49, true, fun _ => #[.int .i64 n], 3, fun g _ => .slice (some ⟨g, 0, none⟩) 1 1⟩ : Sp) (by simp only [List.mem_cons, true_or, or_true])
      dsimp only at h49 b49
      obtain ⟨g25, h50, b50⟩ := hG (⟨25, 50, true, fun f => #[f 49], 49, fun g _ => .slice (some ⟨g, 0, none⟩) 1 1⟩ : Sp) (by simp only [List.mem_cons, true_or, or_true])
      dsimp only at h50 b50
      obtain ⟨g40, h13, b13⟩ := hG (⟨40, 13, true, fun _ => #[.slice none 0 0, .slice none 0 0, .slice none 0 0, .slice none 0 0, .slice none 0 0, .int .i64 0, .int .i64 0, .int .i64 0, .int .i64 0, .int .i64 0], 38, fun g _ => .pointer (some ⟨g, 0, none⟩)⟩ : Sp) (by simp only [List.mem_cons, true_or, or_true])
      dsimp only at h13 b13
      obtain ⟨g39, h64, b64⟩ := hG (⟨39, 64, false, fun _ => #[], 0, fun _ f => .agg #[f 32, f 37, f 41, f 47, f 50, .int .i64 b, .int .i64 t0, .int .i64 t1, .int .i64 t2, .int .i64 t3]⟩ : Sp) (by simp only [List.mem_cons, true_or, or_true])
      dsimp only at h64 b64
      dsimp only
      replace b32 := b32 rfl
      replace b37 := b37 rfl
      replace b40 := b40 rfl
      replace b41 := b41 rfl
      replace b47 := b47 rfl
      replace b49 := b49 rfl
      replace b50 := b50 rfl
      replace b13 := b13 rfl
      rw [h40] at b41
      rw [h49] at b50
      rw [h32, h37, h41, h47, h50] at h64
      rw [h64, h32, h37, h40, h41, h47, h49, h50, h13]
      refine wp_store_row 38 (.tmp 13) (.tmp 64) rfl g40 #[.slice (some ⟨g7, 0, none⟩) 1 1, .slice (some ⟨g12, 0, none⟩) 1 1, .slice (some ⟨g16, 0, none⟩) 2 2, .slice (some ⟨g22, 0, none⟩) 1 1, .slice (some ⟨g25, 0, none⟩) 1 1, .int .i64 b, .int .i64 t0, .int .i64 t1, .int .i64 t2, .int .i64 t3] rfl rfl 38 _ b13.2 (by kernel_rfl) (by simp) (by simp [Value.oneCell']) ?_
      refine hK _ _ (NoPanic.normal ?_)
      have ne : ∀ (g : Nat) (cs : Array Value) (t : TypeId), t ≠ 38 → w2.heap[g]? = some (.cells cs t (0, 0)) → (w2.setRow g40 #[.slice (some ⟨g7, 0, none⟩) 1 1, .slice (some ⟨g12, 0, none⟩) 1 1, .slice (some ⟨g16, 0, none⟩) 2 2, .slice (some ⟨g22, 0, none⟩) 1 1, .slice (some ⟨g25, 0, none⟩) 1 1, .int .i64 b, .int .i64 t0, .int .i64 t1, .int .i64 t2, .int .i64 t3]).heap[g]? = some (.cells cs t (0, 0)) := by
        intro g cs t ht hg
        have hgne : g ≠ g40 := by
          intro e
          rw [e, b13.2] at hg
          injection hg with hg
          injection hg with _ h2
          exact ht h2.symm
        simp only [World.setRow, Array.getElem?_modify]
        rw [if_neg (fun e => hgne e.symm)]
        exact hg
      have r32 := ne _ _ _ (by decide) b32.2
      have r37 := ne _ _ _ (by decide) b37.2
      have r40 := ne _ _ _ (by decide) b40.2
      have r41 := ne _ _ _ (by decide) b41.2
      have r47 := ne _ _ _ (by decide) b47.2
      have r49 := ne _ _ _ (by decide) b49.2
      have r50 := ne _ _ _ (by decide) b50.2
      have r13 : (w2.setRow g40 #[.slice (some ⟨g7, 0, none⟩) 1 1, .slice (some ⟨g12, 0, none⟩) 1 1, .slice (some ⟨g16, 0, none⟩) 2 2, .slice (some ⟨g22, 0, none⟩) 1 1, .slice (some ⟨g25, 0, none⟩) 1 1, .int .i64 b, .int .i64 t0, .int .i64 t1, .int .i64 t2, .int .i64 t3]).heap[g40]? = some (.cells #[.slice (some ⟨g7, 0, none⟩) 1 1, .slice (some ⟨g12, 0, none⟩) 1 1, .slice (some ⟨g16, 0, none⟩) 2 2, .slice (some ⟨g22, 0, none⟩) 1 1, .slice (some ⟨g25, 0, none⟩) 1 1, .int .i64 b, .int .i64 t0, .int .i64 t1, .int .i64 t2, .int .i64 t3] 38 (0, 0)) := setRow_heap _ g40 _ _ _ _ b13.2
      have FW : Fr No w (w2.setRow g40 #[.slice (some ⟨g7, 0, none⟩) 1 1, .slice (some ⟨g12, 0, none⟩) 1 1, .slice (some ⟨g16, 0, none⟩) 2 2, .slice (some ⟨g22, 0, none⟩) 1 1, .slice (some ⟨g25, 0, none⟩) 1 1, .int .i64 b, .int .i64 t0, .int .i64 t1, .int .i64 t2, .int .i64 t3]) := (F1.trans (w2 := w2) (T := No) ⟨hF.os, hF.tape, hF.output, hF.size, hF.block⟩ (fun _ k => k.elim)).row (.inr (Nat.le_trans F1.size b13.1))
      obtain ⟨w3, hw3⟩ : ∃ W, w2.setRow g40 #[.slice (some ⟨g7, 0, none⟩) 1 1, .slice (some ⟨g12, 0, none⟩) 1 1, .slice (some ⟨g16, 0, none⟩) 2 2, .slice (some ⟨g22, 0, none⟩) 1 1, .slice (some ⟨g25, 0, none⟩) 1 1, .int .i64 b, .int .i64 t0, .int .i64 t1, .int .i64 t2, .int .i64 t3] = W := ⟨_, rfl⟩
      rw [hw3] at r32 r37 r40 r41 r47 r49 r50 r13 FW ⊢
      have HU : LayU w3 (numL px py n a b t0 t1 t2 t3) #[.slice (some ⟨g7, 0, none⟩) 1 1, .slice (some ⟨g12, 0, none⟩) 1 1, .slice (some ⟨g16, 0, none⟩) 2 2, .slice (some ⟨g22, 0, none⟩) 1 1, .slice (some ⟨g25, 0, none⟩) 1 1, .int .i64 b, .int .i64 t0, .int .i64 t1, .int .i64 t2, .int .i64 t3] := by
        refine ⟨some ⟨g7, 0, none⟩, 1, some ⟨g12, 0, none⟩, 1, some ⟨g16, 0, none⟩, 2, some ⟨g22, 0, none⟩, 1, some ⟨g25, 0, none⟩, 1, [(some ⟨g15, 0, none⟩, 2, [a, b]), (none, 0, [])], [(some ⟨g24, 0, none⟩, 1, [n])], rfl, ⟨?_, fun _ e => by cases e; exact blk_lt r32⟩, ⟨?_, fun _ e => by cases e; exact blk_lt r37⟩, ⟨⟨⟨?_, fun _ _ => Nat.zero_le _⟩, fun x hx => ?_⟩, fun _ e => by cases e; exact blk_lt r41, fun x hx => ?_, rfl⟩, ⟨?_, fun _ e => by cases e; exact blk_lt r47⟩, ⟨⟨?_, fun _ _ => Nat.zero_le _⟩, fun x hx => ?_⟩, fun _ e => by cases e; exact blk_lt r50, fun x hx => ?_, rfl⟩
        · refine lit_rdn (cs := [.complex .f64 (F px) (F py)]) (t := 45) (fr := (0, 0)) ?_ rfl (by show 1 ≤ _; omega)
          rw [HVX.out, HVY.out]; exact r32
        · exact lit_rdn (cs := [.int .i64 n, .int .i64 a, .int .i64 b]) r37 rfl (by show 1 ≤ _; omega)
        · exact lit_rdn (cs := [.slice (some ⟨g15, 0, none⟩) 2 2, .slice none 0 0]) r41 rfl (by show 2 ≤ _; omega)
        · simp only [List.mem_cons, List.not_mem_nil, or_false] at hx
          rcases hx with rfl | rfl
          · exact ⟨lit_rd1 (l := [a, b]) r40 (by show 2 ≤ _; omega), fun _ _ => Nat.zero_le _, fun e => by cases e⟩
          · exact ⟨Rd.nil _ _, (fun _ e => by cases e), fun _ => rfl⟩
        · simp only [List.mem_cons, List.not_mem_nil, or_false] at hx
          rcases hx with rfl | rfl
          · intro _ e; cases e; exact blk_lt r40
          · intro _ e; cases e
        · exact lit_rdn (cs := [.int .i64 b, .int .i64 a, .int .i64 n, .int .i64 b]) r47 rfl (by show 1 ≤ _; omega)
        · exact lit_rdn (cs := [.slice (some ⟨g24, 0, none⟩) 1 1]) r50 rfl (by show 1 ≤ _; omega)
        · simp only [List.mem_cons, List.not_mem_nil, or_false] at hx
          subst hx
          exact ⟨lit_rd1 (l := [n]) r49 (by show 1 ≤ _; omega), fun _ _ => Nat.zero_le _, fun e => by cases e⟩
        · simp only [List.mem_cons, List.not_mem_nil, or_false] at hx
          subst hx
          intro _ e; cases e; exact blk_lt r49
      have hbits := numL_bits px py n a b t0 t1 t2 t3
      have hsz : Sized (numL px py n a b t0 t1 t2 t3) := fun x hx => by
        have hx' : x ∈ [(px, py)] := hx
        simp at hx'
        subst hx'
        dsimp only
        omega
      obtain ⟨M, hdl, hmn⟩ := dec_low _ (numL_few px py n a b t0 t1 t2 t3 bx by')
      have hmn' : M.no = [(px, py)] := hmn
      have HE := Lib.hid (lencode_any HU hsz (by omega))
      have HUU := Lib.hid HU
      have HSZ := Lib.hid hsz
      have HBT := Lib.hid hbits
      have HDL := Lib.hid hdl
      have HMN := Lib.hid hmn'
      have HW := Lib.hid FW
      have HR13 := Lib.hid r13
      have HR32 := Lib.hid r32
      obtain ⟨k0, k1, k2, k3, k4, k5, k6, k7, k8, k9⟩ := tens r13
      clear HU hsz hbits hdl hmn hmn' FW r32 r37 r40 r41 r47 r49 r50 r13 ne hw3 b32 b37 b40 b41 b47 b49 b50 b13 b64 h64 h32 h37 h40 h41 h47 h49 h50 h13 hK hF hG
      go_wp2_with fail
      refine HE.out.mono ?_
      rintro e w4 ⟨v4, rfl, O4, _, F4⟩
      obtain ⟨Q4, c4, rfl, hQ4, hc4, R4⟩ := O4.shape2
      rw [bys_length] at hc4 ⊢
      have hXl : (closed (pack (layBits (numL px py n a b t0 t1 t2 t3)))).length = 41 := by rw [closed_length, pack_length, HBT.out]
      have HD := Lib.hid (ldecode_any R4 hc4 (by omega))
      rw [HDL.out] at HD
      simp only at HD
      obtain ⟨X, hX⟩ : ∃ X, closed (pack (layBits (numL px py n a b t0 t1 t2 t3))) = X := ⟨_, rfl⟩
      rw [hX] at HD R4 hc4 hXl ⊢
      have HXX := Lib.hid hX
      have HR4 := Lib.hid R4
      rw [hXl] at HD hc4 ⊢
      have HXL := Lib.hid hXl
      have HW4 := Lib.hid (HW.out.trans F4 (fun _ k => k.elim))
      have H13 := Lib.hid (F4.heap HR13.out (fun k => k))
      have H32 := Lib.hid (F4.heap HR32.out (fun k => k))
      have F34 := Lib.hid F4
      clear O4 R4 F4 hX hXl hQ4 k0 k1 k2 k3 k4 k5 k6 k7 k8 k9 HE HW HR13 HR32 HDL
      go_wp2_with fail
      refine HD.out.mono ?_
      rintro e w5 ⟨C5, rfl, V5, F5⟩
      obtain ⟨Bn, dn, Bs, ds, Bp, dp, Bq, dq, Br, dr, Np, Nr, rfl, P1, _⟩ := V5
      unfold lcs
      rw [HMN.out] at P1 ⊢
      obtain ⟨bd, rfl, cb⟩ := cx1_at P1.rd (i := 0) (by simp)
      have eb : bd.add 0 = bd := by unfold Addr.add; simp
      rw [eb] at cb
      have cb' : w5.cell? bd = some (.complex .f64 vx vy) := by rw [cb]; unfold cxc; simp only [List.getElem_cons_zero]; rw [HVX.out, HVY.out]
      simp only [List.length_cons, List.length_nil, Nat.zero_add]
      obtain ⟨O6, hO6⟩ : ∃ O, Obj.cells #[.slice (some bd) 1 dn, .slice Bs M.se.length ds, .slice Bp (List.length Np) dp, .slice Bq M.po.length dq, .slice Br (List.length Nr) dr, .int .i64 M.sp, .int .i64 M.mu, .int .i64 M.wa, .int .i64 M.ca, .int .i64 M.st] 38 = O := ⟨_, rfl⟩
      have FA := (Fr.refl No w5).alloc O6
      have B6 : (w5.alloc O6).heap[w5.heap.size]? = some O6 := blk_new _ _
      obtain ⟨wb, hwb⟩ : ∃ W, w5.alloc O6 = W := ⟨_, rfl⟩
      obtain ⟨g6, hg6⟩ : ∃ g, w5.heap.size = g := ⟨_, rfl⟩
      rw [hwb] at FA B6
      rw [hg6, ← hO6] at B6
      subst hO6
      have F56 := F5.trans FA (fun _ k => k.elim)
      have F36 := F34.out.trans F56 (fun _ k => k.elim)
      have HE2 : Hid (∀ W, Fr No wb W → Calls Try.prog 14 #[.agg #[.slice (some ⟨g7, 0, none⟩) 1 1, .slice (some ⟨g12, 0, none⟩) 1 1, .slice (some ⟨g16, 0, none⟩) 2 2, .slice (some ⟨g22, 0, none⟩) 1 1, .slice (some ⟨g25, 0, none⟩) 1 1, .int .i64 b, .int .i64 t0, .int .i64 t1, .int .i64 t2, .int .i64 t3]] W fun e w' => ∃ Q c, e = .returned (.slice Q 41 c) ∧ Rd w' Q (bys X) ∧ Fr No wb w') := by
        show ∀ W, _
        intro W hW
        have hu : LayU W (numL px py n a b t0 t1 t2 t3) #[.slice (some ⟨g7, 0, none⟩) 1 1, .slice (some ⟨g12, 0, none⟩) 1 1, .slice (some ⟨g16, 0, none⟩) 2 2, .slice (some ⟨g22, 0, none⟩) 1 1, .slice (some ⟨g25, 0, none⟩) 1 1, .int .i64 b, .int .i64 t0, .int .i64 t1, .int .i64 t2, .int .i64 t3] := HUU.out.fr' (F36.trans hW (fun _ k => k.elim))
        refine (rlencode_any hu HSZ.out (by have := HBT.out; omega)).mono ?_
        rintro e w' ⟨v, rfl, O, _, F⟩
        obtain ⟨Q, c, rfl, _, _, R⟩ := O.shape2
        rw [HXX.out] at R ⊢
        rw [bys_length, HXL.out]
        exact ⟨Q, c, rfl, R, hW.trans F (fun _ k => k.elim)⟩
      have HBY : Hid (∀ W Q c, Fr No wb W → Rd W Q (bys X) → Calls Try.prog 18 #[.slice Q4 41 c4, .slice Q 41 c] W fun e w' => e = .returned (.bool true) ∧ Fr No wb w') := by
        show ∀ W Q c, _
        intro W Q c hW hR
        have := refBytes_any (c := c4) (d := c) ((HR4.out.no F56).no hW) hR
        rw [HXL.out, decide_eq_true rfl] at this
        exact this.mono fun _ _ ⟨h1, h2⟩ => ⟨h1, hW.trans h2 (fun _ k => k.elim)⟩
      have HRD : Hid (∀ W, Fr No wb W → Calls Try.prog 10 #[.slice Q4 41 c4] W fun e w' => e = .returned (.bool true) ∧ Fr No wb w') := by
        show ∀ W, _
        intro W hW
        have := reads_any (c := c4) ((HR4.out.no F56).no hW) (by rw [HXL.out]; exact hc4) (by rw [HXL.out]; omega)
        rw [HXL.out] at this
        exact this.mono fun _ _ ⟨h1, h2⟩ => ⟨h1, hW.trans h2 (fun _ k => k.elim)⟩
      have KD : Hid (∀ W, Fr No wb W → (W.cell? ⟨g40, 0, none⟩ = some (.slice (some ⟨g7, 0, none⟩) 1 1) ∧ W.cell? ⟨g40, 1, none⟩ = some (.slice (some ⟨g12, 0, none⟩) 1 1) ∧ W.cell? ⟨g40, 2, none⟩ = some (.slice (some ⟨g16, 0, none⟩) 2 2) ∧ W.cell? ⟨g40, 3, none⟩ = some (.slice (some ⟨g22, 0, none⟩) 1 1) ∧ W.cell? ⟨g40, 4, none⟩ = some (.slice (some ⟨g25, 0, none⟩) 1 1) ∧ W.cell? ⟨g40, 5, none⟩ = some (.int .i64 b) ∧ W.cell? ⟨g40, 6, none⟩ = some (.int .i64 t0) ∧ W.cell? ⟨g40, 7, none⟩ = some (.int .i64 t1) ∧ W.cell? ⟨g40, 8, none⟩ = some (.int .i64 t2) ∧ W.cell? ⟨g40, 9, none⟩ = some (.int .i64 t3)) ∧ W.cell? ⟨g6, 0, none⟩ = some (.slice (some bd) 1 dn) ∧ W.cell? bd = some (.complex .f64 vx vy) ∧ W.cell? ⟨g7, 0, none⟩ = some (.complex .f64 vx vy)) := by
        show ∀ W, _
        intro W hW
        obtain ⟨q0, q1, q2, q3, q4, q5, q6, q7, q8, q9⟩ := tens (hW.heap (F56.heap H13.out (fun k => k)) (fun k => k))
        exact ⟨⟨q0, q1, q2, q3, q4, q5, q6, q7, q8, q9⟩, (by rw [blk_cell (hW.heap B6 (fun k => k))]; rfl), hW.cell (FA.cell cb' (fun k => k)) (fun k => k), (by rw [blk_cell (hW.heap (F56.heap H32.out (fun k => k)) (fun k => k))]; rfl)⟩
      have HWB := Lib.hid (HW4.out.trans F56 (fun _ k => k.elim))
      have FQ := Fr.refl No wb
      have FD := (Fr.refl No wb).drew
      have o1 : (FloatKind.f64.format.order vx vx == some Ordering.eq) = true := by rw [← HVX.out, ord_eq (isF px) (isF px) (by omega) (by omega)]; simp
      have o2 : (FloatKind.f64.format.order vy vy == some Ordering.eq) = true := by rw [← HVY.out, ord_eq (isF py) (isF py) (by omega) (by omega)]; simp
      clear P1 cb cb' eb FA B6 F56 F36 F5 H13 H32 HUU HSZ HBT HXX HXL HR4 HW4 F34 HD KC
      go_upto_region 6 with (fail)
      try rw [hwb]
      clear hwb hg6
      go_region_held3 (fun W => (W.cell? ⟨g40, 0, none⟩ = some (.slice (some ⟨g7, 0, none⟩) 1 1) ∧ W.cell? ⟨g40, 1, none⟩ = some (.slice (some ⟨g12, 0, none⟩) 1 1) ∧ W.cell? ⟨g40, 2, none⟩ = some (.slice (some ⟨g16, 0, none⟩) 2 2) ∧ W.cell? ⟨g40, 3, none⟩ = some (.slice (some ⟨g22, 0, none⟩) 1 1) ∧ W.cell? ⟨g40, 4, none⟩ = some (.slice (some ⟨g25, 0, none⟩) 1 1) ∧ W.cell? ⟨g40, 5, none⟩ = some (.int .i64 b) ∧ W.cell? ⟨g40, 6, none⟩ = some (.int .i64 t0) ∧ W.cell? ⟨g40, 7, none⟩ = some (.int .i64 t1) ∧ W.cell? ⟨g40, 8, none⟩ = some (.int .i64 t2) ∧ W.cell? ⟨g40, 9, none⟩ = some (.int .i64 t3)) ∧ W.cell? ⟨g6, 0, none⟩ = some (.slice (some bd) 1 dn) ∧ W.cell? bd = some (.complex .f64 vx vy) ∧ W.cell? ⟨g7, 0, none⟩ = some (.complex .f64 vx vy))
        (exact KD.out _ (by assumption))
        (first
          | (go_at_call 14; with_reducible refine (HE2.out _ ?_).mono ?_; assumption; rintro e wa ⟨Q8, c8, rfl, R8, Fa⟩)
          | (go_at_call 18; with_reducible refine (HBY.out _ _ _ ?_ ?_).mono ?_; assumption; assumption; rintro e wc ⟨rfl, Fc⟩)
          | (go_at_call 10; with_reducible refine (HRD.out _ ?_).mono ?_; assumption; rintro e wd ⟨rfl, Fd⟩))
      all_goals
        go_wp2
        go_ret
        exact ⟨rfl, HWB.out.trans (T := No) (by assumption) (fun _ k => k.elim)⟩
end Go.Proofs.Ytfnlimcgoeknjaa
