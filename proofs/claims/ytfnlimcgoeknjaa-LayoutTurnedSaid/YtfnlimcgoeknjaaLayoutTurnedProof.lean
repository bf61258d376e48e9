/- LayoutTurned: for every draft, every three numbers, every slice of bytes and every bool the law returns true. No condition. -/
import Derived.Test.YtfnlimcgoeknjaaRows
import Derived.Test.YtfnlimcgoeknjaaLTurW
import Derived.Test.YtfnlimcgoeknjaaOpn
import Derived.Test.YtfnlimcgoeknjaaFin
import Derived.WalkKit
import Derived.ProofKit
import Derived.OpenShut
import Derived.ShutString
import Derived.ChangeOld
import Derived.Below
import Derived.SizedLaws
namespace Go.Proofs.Ytfnlimcgoeknjaa.layoutTurned
open Go.ChangeShapes Go.WideShapes Go.ChangeAt Go.RowKit
set_option linter.unusedVariables false

theorem own : ownKnob Try.prog.godebug = none := by kernel_rfl
theorem laidOut : laidOutB Try.prog = true := by kernel_rfl

set_option maxRecDepth 100000 in
theorem lifted (os : Os) (started : os.Started) (H : Type) (enc : TypeId × Value → H) :
    ReturnsInHanded {} Try.checked os 4 .any (Rows.layoutTurnedSpec.pre6 enc Try.prog Try.f4 Rows.layoutTurnedRow.domain false) (Rows.layoutTurnedSpec.post enc Try.prog Try.f4 false true false false) := by
  refine returnsInHanded_of_change_sized (C := Try.checked) own started (by kernel_rfl) Try.func4
    (ChangeSpec.witness6 (enc := enc) (C := Try.checked) false ⟨#[], #[.agg #[.int .u8 0, .int .u8 0, .int .u8 0, .int .u16 0, .int .u16 0, .int .u8 0, .int .u8 0, .int .u8 0, .slice none 0 0], .int .u16 0, .int .u8 0, .int .u8 0, .slice none 0 0, .bool false], []⟩ 8 (by kernel_rfl) (by kernel_rfl) (by kernel_rfl) (by kernel_rfl)) ?_
  intro W base args ds gs before hval0 hW hcnd hsz0 _
  have hval : ∀ (j : Nat) t v, Try.f4.params[j]? = some t → args[j]? = some v → Value.okWide Try.prog W .any base t v := hval0
  have hW' := hW
  obtain ⟨p, q, hA0, hV, rfl, hfz, hnd⟩ := hW
  have hA : DataW.TrodAll enc Try.prog W 0 (fun _ => true) true Try.f4.params.toList args.toList ds p := hA0
  rw [Try.params4] at hA hval
  obtain ⟨v0, vs0, d0, ds0, p0, q0, hargs, rfl, rfl, h0, r0⟩ := trodAll_cons hA
  obtain ⟨v1, vs1, d1, ds1, p1, q1, rfl, rfl, rfl, h1, r1⟩ := trodAll_cons r0
  obtain ⟨v2, vs2, d2, ds2, p2, q2, rfl, rfl, rfl, h2, r2⟩ := trodAll_cons r1
  obtain ⟨v3, vs3, d3, ds3, p3, q3, rfl, rfl, rfl, h3, r3⟩ := trodAll_cons r2
  obtain ⟨v4, vs4, d4, ds4, p4, q4, rfl, rfl, rfl, h4, r4⟩ := trodAll_cons r3
  obtain ⟨v5, vs5, d5, ds5, p5, q5, rfl, rfl, rfl, h5, r5⟩ := trodAll_cons r4
  obtain ⟨rfl, rfl, rfl⟩ := trodAll_nil r5
  obtain rfl : args = #[v0, v1, v2, v3, v4, v5] := by cases args; simp_all
  obtain ⟨rfl, rfl⟩ := trodVars_none hV
  have hsz : (DataW.weightsEach Try.prog [30, 27, 5, 5, 22, 4] [d0, d1, d2, d3, d4, d5]).all (fun x => decide (x ≤ reachBytes)) = true := hsz0
  have o0 := hval 0 30 v0 rfl rfl
  have k0 := h0
  have lt0 : ∀ x ∈ p0, x.block < W.heap.size := by obtain ⟨m, hm⟩ := k0; exact DataW.trod_lt m _ _ _ hm
  have z0 : ∀ m ∈ d0.weights Try.prog 30, m ≤ 140737488351232 := fun m hm => by
    have := List.all_eq_true.1 hsz _ (DataW.weights_mem_each (j := 0) rfl rfl m hm)
    exact Nat.le_trans (of_decide_eq_true this) (by decide)
  obtain ⟨a1, rfl, rfl, rfl, w1⟩ := open_int Try.underlying27 (hval 1 27 v1 rfl rfl) h1
  obtain ⟨a2, rfl, rfl, rfl, w2⟩ := open_int Try.underlying5 (hval 2 5 v2 rfl rfl) h2
  obtain ⟨a3, rfl, rfl, rfl, w3⟩ := open_int Try.underlying5 (hval 3 5 v3 rfl rfl) h3
  obtain ⟨a4, len4, cap4, rfl⟩ := okWide_slice Try.underlying22 (hval 4 22 v4 rfl rfl)
  have k4 := h4
  have lt4 : ∀ x ∈ p4, x.block < W.heap.size := by obtain ⟨m, hm⟩ := k4; exact DataW.trod_lt m _ _ _ hm
  have z4 : ∀ m ∈ d4.weights Try.prog 22, m ≤ 140737488351232 := fun m hm => by
    have := List.all_eq_true.1 hsz _ (DataW.weights_mem_each (j := 4) rfl rfl m hm)
    exact Nat.le_trans (of_decide_eq_true this) (by decide)
  obtain ⟨a5, rfl, rfl, rfl⟩ := open_bool Try.underlying4 (hval 5 4 v5 rfl rfl) h5
  clear hA0 hval0
  refine ((by
    obtain ⟨f, l, s, m, wt, c, st, j, A, cc, R, rfl, hb, hR⟩ := open_draft o0 k0
    obtain ⟨mo, rfl, _, _, hr, hcz⟩ := open_bytes Try.underlying22 Try.underlying5 (by kernel_rfl) k4
    have b2 := wf_u8 w2
    obtain ⟨t, rfl⟩ := Int.eq_ofNat_of_zero_le b2.1
    have ht : ((t : Nat) : Int) = ((UInt8.ofNat t).toNat : Int) := by rw [UInt8.toNat_ofNat_of_lt' (by show t < 256; omega)]
    have := layoutTurned_any (f := f) (l := l) (s := s) (m := m) (wt := wt) (c := c) (st := st) (j := j) (cc := cc) a1 a3 (UInt8.ofNat t) a5 (by have := wf_u16 w1; omega) (by have := wf_u8 w3; omega) hb hR hr hcz
    rw [← ht] at this
    exact this.mono fun _ _ ⟨h1, h2⟩ => ⟨h1, h2.below⟩) : Calls Try.prog 4 _ W fun e w' => e = .returned (.bool true) ∧ Below W.heap.size W w').mono fun e W' ⟨he, bel⟩ => ?_
  subst he
  exact ⟨_, rfl, _, _, _, [], _, [], hW', trodAll_mk1 (shut_bool Try.underlying4 _), (trodAll_cons_mk (Below.trod laidOut (by kernel_rfl) (of_decide_eq_true (by kernel_rfl)) k0 bel lt0) (trodAll_cons_mk (shut_int Try.underlying27 w1) (trodAll_cons_mk (shut_int Try.underlying5 w2) (trodAll_cons_mk (shut_int Try.underlying5 w3) (trodAll_cons_mk (Below.trod laidOut (by kernel_rfl) (of_decide_eq_true (by kernel_rfl)) k4 bel lt4) (trodAll_cons_mk (shut_bool Try.underlying4 _) trodAll_mk0)))))), rfl, bel.frame _, fun h => by cases h⟩

theorem over : Rows.layoutTurnedRow.holds Try.pinned (OpenSpec.ofChange Rows.layoutTurnedSpec) :=
  OpenClaim.holds_of_wide 4 Try.f4 rfl rfl rfl rfl rfl rfl rfl ⟨rfl, rfl, rfl, rfl, rfl⟩ rfl rfl rfl rfl rfl (by kernel_rfl) Try.func4 (by kernel_rfl)
    (of_decide_eq_true (by kernel_rfl)) (by unfold Func.isWrapper; first | (rw [if_pos (by decide +kernel)]; kernel_rfl) | (rw [if_neg (by decide +kernel)]; exact ⟨rfl, rfl⟩))
    (fun os started H enc _ => lifted os started H enc)
end Go.Proofs.Ytfnlimcgoeknjaa.layoutTurned
namespace Go.Proofs.Ytfnlimcgoeknjaa
/-- The statement. -/
theorem layoutTurned_holds : Rows.LayoutTurnedSaid := layoutTurned.over
#print axioms layoutTurned_holds
end Go.Proofs.Ytfnlimcgoeknjaa
