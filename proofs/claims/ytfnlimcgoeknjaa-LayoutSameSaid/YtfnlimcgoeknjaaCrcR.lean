import Derived.Test.YtfnlimcgoeknjaaCrcW
import Derived.Deep.DeepCutAuto
namespace Go.Proofs.Ytfnlimcgoeknjaa
open Go.RowKit Go

/-- The document's register at block q. -/
def At (w : World) (q : Nat) (vs : List Value) : Prop := w.heap[q]? = some (.cells vs.toArray 108 (0, 0))
theorem At.cell {w : World} {q : Nat} {vs : List Value} (h : At w q vs) (j : Nat) : w.cell? ⟨q, j, none⟩ = vs[j]? := by rw [blk_cell h]; simp
theorem At.free {w : World} {q : Nat} {vs : List Value} (h : At w q vs) (j : Nat) : w.frozen? ⟨q, j, none⟩ = false := blk_free h j
theorem At.set {w : World} {q : Nat} {vs : List Value} (h : At w q vs) (j : Nat) (v : Value) : At (w.setCell ⟨q, j, none⟩ v) q (vs.set j v) := by
  unfold At
  rw [blk_set h]; simp

theorem bit_test (b : UInt8) (k : Nat) : (((b.toNat : Int) / 2 ^ k).tmod 2 == 1) = (b16 b).getLsbD k := by
  unfold b16
  have hb := b.toNat_lt
  rw [BitVec.getLsbD_ofNat]
  have e : ((b.toNat : Int) / 2 ^ k) = ((b.toNat / 2 ^ k : Nat) : Int) := by simp
  rw [e, show ((b.toNat / 2 ^ k : Nat) : Int).tmod 2 = ((b.toNat / 2 ^ k % 2 : Nat) : Int) by rw [Int.tmod_eq_emod_of_nonneg (Int.natCast_nonneg _)]; rfl]
  by_cases hk : k < 16
  · rw [Nat.testBit_eq_decide_div_mod_eq]
    simp only [hk, decide_true, Bool.true_and]
    rw [Bool.eq_iff_iff]; simp; omega
  · have : b.toNat / 2 ^ k = 0 := Nat.div_eq_of_lt (Nat.lt_of_lt_of_le hb (Nat.pow_le_pow_right (by omega) (by omega : 8 ≤ k)))
    rw [this]; simp [hk]

set_option maxRecDepth 20000 in
set_option maxHeartbeats 4000000 in
theorem crcRef_any (A : Option Addr) (c : Nat) (l : List UInt8) (w : World) (hr : Rd w A (bys l)) :
    Calls Try.prog 22 #[.slice A l.length c] w fun e w' => e = .returned (.int .u16 ((crc l).toNat : Int)) ∧ Fr No w w' := by
  have hl := hr.1
  rw [bys_length] at hl
  have HR := Lib.hid hr
  clear hr
  go_enter Try.func22, Try.ntmps22
  go_wp2
  generalize hq : w.heap.size = q at *
  have A0 : At (w.alloc (.cells #[.bool false, .bool false, .bool false, .bool false, .bool false, .bool false, .bool false, .bool false, .bool false, .bool false, .bool false, .bool false, .bool false, .bool false, .bool false, .bool false] 108)) q (List.replicate 16 (.bool false)) := by
    rw [← hq]; exact blk_new w _
  have F0 : Fr No w (w.alloc (.cells #[.bool false, .bool false, .bool false, .bool false, .bool false, .bool false, .bool false, .bool false, .bool false, .bool false, .bool false, .bool false, .bool false, .bool false, .bool false, .bool false] 108)) := (Fr.refl No w).alloc _
  generalize w.alloc (.cells #[.bool false, .bool false, .bool false, .bool false, .bool false, .bool false, .bool false, .bool false, .bool false, .bool false, .bool false, .bool false, .bool false, .bool false, .bool false, .bool false] 108) = w0 at *
  go_loopg [4] 16 (fun g i wr => ∃ (k : Nat), k + g = 16 ∧ i = .int .i64 k ∧ At wr q ((List.range 16).map fun i => .bool (decide (i < k))) ∧ Fr No w wr)
  case atStart => exact ⟨0, by omega, rfl, A0, F0⟩
  case round =>
    obtain ⟨k, hk, rfl, A1, F1⟩ := hrel
    clear A0 F0
    by_cases hk16 : k < 16
    · have hc := A1.cell k
      have hf := A1.free k
      rw [List.getElem?_map, List.getElem?_range hk16] at hc
      go_wp2
      go_roundg (15 - k)
      case measure => omega
      case rel =>
        refine ⟨k + 1, by omega, by go_num, ?_, F1.setCell (.inr (by show w.heap.size ≤ q; omega)) _⟩
        have := A1.set k (.bool true)
        refine cast (congrArg (At _ q) ?_) this
        apply List.ext_getElem?
        intro i
        rw [List.getElem?_set]
        by_cases hi : i < 16
        · by_cases e : k = i
          · subst e; simp [hi]
          · rw [if_neg e]; simp [hi]; omega
        · simp [hi]; omega
    · obtain rfl : k = 16 := by omega
      have e1 : ((List.range 16).map fun i => Value.bool (decide (i < 16))) = bitsOf 65535#16 := by
        apply List.map_congr_left
        intro i hi
        rw [List.mem_range] at hi
        rw [show (65535#16 : BitVec 16) = BitVec.allOnes 16 by decide, BitVec.getLsbD_allOnes]
      rw [e1] at A1
      clear e1
      go_wp2
      go_loopg [5] l.length (fun g i wr => ∃ (k : Nat), k + g = l.length ∧ i = .int .i64 k ∧ At wr q (bitsOf (reg (l.take k))) ∧ Fr No w wr)
      case atStart => exact ⟨0, by omega, rfl, A1, F1⟩
      case round =>
        obtain ⟨k, hk, rfl, A2, F2⟩ := hrel
        clear A1 F1
        by_cases hlt : k < l.length
        · have hfeed : Hid (reg (l.take (k + 1)) = feed (reg (l.take k)) (l.getD k 0)) := reg_take l k hlt
          go_wp2
          go_loopg [6] 8 (fun g i wr => ∃ (k' : Nat), k' + g = 8 ∧ i = .int .i64 k' ∧ At wr q (bitsOf (refs (l.getD k 0) k' (reg (l.take k)))) ∧ Fr No w wr)
          case atStart => exact ⟨0, by omega, rfl, A2, F2⟩
          case round =>
            obtain ⟨k', hk', rfl, A3, F3⟩ := hrel
            clear A2 F2
            by_cases h8 : k' < 8
            · obtain ⟨ad, b, rfl, hck, hb⟩ := (HR.out.no F3).byte' hlt
              generalize hx : refs (l.getD k 0) k' (reg (l.take k)) = x at *
              have hs : Hid (refs (l.getD k 0) (k' + 1) (reg (l.take k)) = took x ((b16 b).getLsbD k')) := by
                show refs (l.getD k 0) (k' + 1) (reg (l.take k)) = took x ((b16 b).getLsbD k')
                simp only [refs]; rw [hx, hb.out]
              clear hx
              have c0 := A3.cell 0
              rw [bitsOf_get _ _ (by omega)] at c0
              obtain ⟨t0, ht0⟩ : ∃ t0, x.getLsbD 0 = t0 := ⟨_, rfl⟩
              rw [ht0] at c0
              have HT := Lib.hid ht0
              clear ht0
              have EB := Lib.hid (bit_test b k')
              go_wp2
              go_quiet (fail)
              rw [EB.out]
              obtain ⟨tk, htk⟩ : ∃ tk, (!(t0 == (b16 b).getLsbD k')) = tk := ⟨_, rfl⟩
              rw [htk]
              have hs2 : Hid (refs (l.getD k 0) (k' + 1) (reg (l.take k)) = (x >>> 1) ^^^ (if tk = true then 40961#16 else 0#16)) := by
                show refs (l.getD k 0) (k' + 1) (reg (l.take k)) = (x >>> 1) ^^^ (if tk = true then 40961#16 else 0#16)
                rw [hs.out, ← htk]
                unfold took
                rw [HT.out]; rfl
              clear hs htk EB
              have A4 : At (wr.drewN nq) q (mid x 0) := by rw [mid_zero]; exact A3
              have F4 := F3.drewN nq
              generalize wr.drewN nq = w4 at *
              go_wp2
              go_loopg [8] 15 (fun g i wr => ∃ (j : Nat), j + g = 15 ∧ i = .int .i64 j ∧ At wr q (mid x j) ∧ Fr No w wr)
              case atStart => exact ⟨0, by omega, rfl, A4, F4⟩
              case round =>
                obtain ⟨j, hj, rfl, A5, F5⟩ := hrel
                clear A4 F4 A3 F3
                by_cases h15 : j < 15
                · have c1 := A5.cell (j + 1)
                  have c2 := A5.cell j
                  have f2 := A5.free j
                  rw [mid_get _ _ _ (by omega), if_neg (by omega)] at c1
                  rw [mid_get _ _ _ (by omega), if_neg (by omega)] at c2
                  obtain ⟨y, hy⟩ : ∃ y, x.getLsbD (j + 1) = y := ⟨_, rfl⟩
                  obtain ⟨z, hz⟩ : ∃ z, x.getLsbD j = z := ⟨_, rfl⟩
                  rw [hy] at c1
                  rw [hz] at c2
                  have HY := Lib.hid hy
                  clear hy hz
                  go_wp2
                  go_roundg (14 - j)
                  case measure => omega
                  case rel =>
                    refine ⟨j + 1, by omega, by go_num, ?_, F5.setCell (.inr (by show w.heap.size ≤ q; omega)) _⟩
                    rw [← mid_set x j h15, HY.out]
                    exact A5.set j _
                · obtain rfl : j = 15 := by omega
                  have c2 := A5.cell 15
                  have f2 := A5.free 15
                  rw [mid_get _ _ _ (by omega), if_neg (by omega)] at c2
                  obtain ⟨z, hz⟩ : ∃ z, x.getLsbD 15 = z := ⟨_, rfl⟩
                  rw [hz] at c2
                  clear hz
                  have A6 := A5.set 15 (.bool false)
                  rw [mid_last] at A6
                  have F6 := F5.setCell (p := ⟨q, 15, none⟩) (.inr (by show w.heap.size ≤ q; omega)) (.bool false)
                  go_upto_region 18 with (fail)
                  generalize wr.setCell ⟨q, 15, none⟩ (.bool false) = w6 at *
                  clear A5 F5 c2 f2
                  cases tk
                  · go_wp2
                    go_roundg (7 - k')
                    case measure => omega
                    case rel => exact ⟨k' + 1, by omega, by go_num, by rw [hs2.out]; simpa using A6, F6⟩
                  · have e0 := A6.cell 0
                    have e1 := A6.cell 13
                    have e2 := A6.cell 15
                    have f0 := A6.free 0
                    have f1 := A6.free 13
                    have f2 := A6.free 15
                    rw [bitsOf_get _ _ (by omega)] at e0 e1 e2
                    have A7 := ((A6.set 0 (.bool !(x >>> 1).getLsbD 0)).set 13 (.bool !(x >>> 1).getLsbD 13)).set 15 (.bool !(x >>> 1).getLsbD 15)
                    rw [bits_poly] at A7
                    have F7 := ((F6.setCell (p := ⟨q, 0, none⟩) (.inr (by show w.heap.size ≤ q; omega)) (.bool !(x >>> 1).getLsbD 0)).setCell (p := ⟨q, 13, none⟩) (.inr (by show w.heap.size ≤ q; omega)) (.bool !(x >>> 1).getLsbD 13)).setCell (p := ⟨q, 15, none⟩) (.inr (by show w.heap.size ≤ q; omega)) (.bool !(x >>> 1).getLsbD 15)
                    obtain ⟨y0, hy0⟩ : ∃ y, (x >>> 1).getLsbD 0 = y := ⟨_, rfl⟩
                    obtain ⟨y1, hy1⟩ : ∃ y, (x >>> 1).getLsbD 13 = y := ⟨_, rfl⟩
                    obtain ⟨y2, hy2⟩ : ∃ y, (x >>> 1).getLsbD 15 = y := ⟨_, rfl⟩
                    rw [hy0, hy1, hy2] at A7 F7
                    rw [hy0] at e0
                    rw [hy1] at e1
                    rw [hy2] at e2
                    clear hy0 hy1 hy2
                    go_wp2
                    go_roundg (7 - k')
                    case measure => omega
                    case rel => exact ⟨k' + 1, by omega, by go_num, by rw [hs2.out]; exact A7, F7⟩
            · obtain rfl : k' = 8 := by omega
              go_wp2
              go_roundg (l.length - (k + 1))
              case measure => omega
              case rel => exact ⟨k + 1, by omega, by go_num, by rw [hfeed.out, ← refs_feed]; exact A3, F3⟩
        · obtain rfl : k = l.length := by omega
          rw [List.take_length] at A2
          go_wp2
          go_loopg [9, 10] 16 (fun g n i wr => ∃ (k : Nat), k = g ∧ k ≤ 16 ∧ i = .int .i64 ((k : Int) - 1) ∧ n = .int .u16 (((crc l).toNat / 2 ^ k : Nat) : Int) ∧ At wr q (bitsOf (reg l)) ∧ Fr No w wr)
          case atStart => exact ⟨16, by omega, by omega, rfl, by rw [Nat.div_eq_of_lt (crc l).isLt]; rfl, A2, F2⟩
          case round =>
            obtain ⟨k, rfl, hk16, rfl, rfl, A3, F3⟩ := hrel
            clear A2 F2
            by_cases h0 : 0 < k
            · obtain ⟨j, rfl⟩ : ∃ j, k = j + 1 := ⟨k - 1, by omega⟩
              have cj := A3.cell j
              rw [bitsOf_get _ _ (by omega)] at cj
              obtain ⟨t0, ht0⟩ : ∃ t0, (reg l).getLsbD j = t0 := ⟨_, rfl⟩
              rw [ht0] at cj
              have hdiv : Hid ((crc l).toNat / 2 ^ j = (crc l).toNat / 2 ^ (j + 1) * 2 + (if t0 = true then 0 else 1)) := by
                show (crc l).toNat / 2 ^ j = (crc l).toNat / 2 ^ (j + 1) * 2 + (if t0 = true then 0 else 1)
                rw [Nat.pow_succ, ← Nat.div_div_eq_div_mul]
                have e1 : (crc l).getLsbD j = !t0 := by unfold crc; rw [BitVec.getLsbD_not, ht0]; simp; omega
                have e2 : (crc l).toNat.testBit j = !t0 := e1
                rw [Nat.testBit_eq_decide_div_mod_eq] at e2
                cases t0
                · simp at e2 ⊢; omega
                · simp at e2 ⊢; omega
              have hlt : (crc l).toNat / 2 ^ j < 65536 := Nat.lt_of_le_of_lt (Nat.div_le_self _ _) (crc l).isLt
              clear ht0
              generalize (crc l).toNat / 2 ^ (j + 1) = n1 at *
              obtain ⟨n0, hn0⟩ : ∃ n0, (crc l).toNat / 2 ^ j = n0 := ⟨_, rfl⟩
              rw [hn0] at hdiv hlt
              have HN := Lib.hid hn0
              clear hn0
              cases t0
              · have hn : n0 = n1 * 2 + 1 := hdiv.out
                subst hn
                go_wp2
                go_roundg j
                case measure => omega
                case rel => exact ⟨j, rfl, by omega, by go_num, by rw [HN.out]; go_num, A3, F3⟩
              · have hn : n0 = n1 * 2 := hdiv.out
                subst hn
                go_wp2
                go_roundg j
                case measure => omega
                case rel => exact ⟨j, rfl, by omega, by go_num, by rw [HN.out]; go_num, A3, F3⟩
            · obtain rfl : k = 0 := by omega
              go_wp2
              go_ret
              exact ⟨by simp, F3⟩
end Go.Proofs.Ytfnlimcgoeknjaa
