import Derived.Test.YtfkcpooljkpfpaaRefE
namespace Go.Proofs.Ytfkcpooljkpfpaa
open Go.RowKit Go

theorem wr_new (w : World) : Wr (w.alloc (.cells #[.slice none 0 0, .int .i64 0] 37)) w.heap.size (.slice none 0 0) [] :=
  ⟨blk_new w _, Own.nil _ _, by simp [Value.ownBlock]⟩
theorem rd_row (w : World) (l : List UInt8) (h : l.length ≤ 9223372036854775807) : Rd (w.alloc (.cells (bys l).toArray 5)) (some ⟨w.heap.size, 0, none⟩) (bys l) := by
  refine ⟨by rw [bys_length]; exact h, fun j hj => ⟨_, rfl, ?_⟩⟩
  rw [addr_add0, blk_cell (blk_new w _)]
  simp [List.getD_eq_getElem?_getD, List.getElem?_eq_getElem hj]

set_option maxRecDepth 20000 in
set_option maxHeartbeats 4000000 in
theorem five_any (w : World) : Calls Try.prog 9 #[] w fun e w' => e = .returned (.bool true) ∧ Fr No w w' := by
  have W0 := wr_new w
  have F0 := (Fr.refl No w).alloc (.cells #[.slice none 0 0, .int .i64 0] 37)
  have HP := Lib.hid (put_any W0 (by simp) 5 (by omega) 3)
  rw [show ([] ++ putBits 5 (clamp 3)) = [true, false, true] by decide] at HP
  clear W0
  go_enter Try.func9, Try.ntmps9
  go_wp2_with fail
  refine HP.out.mono ?_
  rintro e w1 ⟨rfl, v1, W1, F1, K1⟩
  have HF := Lib.hid (flag_any W1 (by simp) true)
  go_wp2_with fail
  refine HF.out.mono ?_
  rintro e w2 ⟨rfl, v2, W2, F2, K2⟩
  have G2 : Fr No w w2 := F0.trans (ws_trans F1 K1 F2) (fun i hi => .inr (by
    rcases hi with e | e
    · omega
    · simp [Value.ownBlock] at e))
  have HB := Lib.hid (wbytes_any W2 (by simp))
  rw [show pack ([true, false, true] ++ [true]) = [176] by decide] at HB
  clear W1 F1 K1 W2 F2 K2 HP HF F0
  go_wp2_with fail
  refine HB.out.mono ?_
  rintro e w3 ⟨v3, rfl, O3, B3, F3⟩
  obtain ⟨A3, c3, rfl, _, _, R3⟩ := O3.shape
  have G3 := G2.trans F3 (fun _ k => k.elim)
  have HE := Lib.hid (refBytes_any (c := c3) (d := 1) (R3.no ((Fr.refl No w3).alloc (.cells (bys [176]).toArray 5))) (rd_row w3 [176] (by simp)))
  rw [show decide (([176] : List UInt8) = [176]) = true by decide] at HE
  have G4 := G3.alloc (.cells (bys [176]).toArray 5)
  clear R3 O3 B3 F3 HB G2 G3
  rw [bys_length]
  go_wp2_with fail
  refine HE.out.mono ?_
  rintro e w4 ⟨rfl, F4⟩
  have G5 := G4.trans F4 (fun _ k => k.elim)
  have HN := Lib.hid (newReader_any (c := 1) (rd_row w4 [176] (by simp)) (fun h => by cases h) (by simp))
  have G6 := G5.alloc (.cells (bys [176]).toArray 5)
  clear HE F4 G4 G5
  go_wp2_with fail
  refine HN.out.mono ?_
  rintro e w5 ⟨g, B, d, rfl, R5, hg, hB, F5⟩
  have G7 := G6.trans F5 (fun _ k => k.elim)
  have HG := Lib.hid (get_any R5 3)
  rw [show got [176] 0 false (clamp 3) = 5 by decide] at HG
  have hgw : w.heap.size ≤ g := Nat.le_trans G6.size hg
  clear HN R5 F5 G6 hB
  go_wp2_with fail
  refine HG.out.mono ?_
  rintro e w6 ⟨rfl, R6, F6⟩
  have G8 := G7.trans F6 (fun i hi => .inr (by rw [show i = g from hi]; exact hgw))
  clear HG R6 F6 G7
  go_wp2
  go_ret
  exact ⟨rfl, G8⟩
end Go.Proofs.Ytfkcpooljkpfpaa
