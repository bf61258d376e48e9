import Derived.Test.YtfnlimcgoeknjaaEqualW
import Derived.Laws.CopyOwn
import Derived.Test.YtfnlimcgoeknjaaCrcR
namespace Go.Proofs.Ytfnlimcgoeknjaa
open Go.RowKit Go

theorem make_u8 (w : World) (n k : Nat) (hn : n + k ≤ 140737488355328) : (Instr.makeSlice 22 (.int .i64 (n : Int)) (.int .i64 ((n : Int) + (k : Int)))).run Try.prog w = .ok (.slice (some ⟨w.heap.size, 0, none⟩) n (n + k)) (w.alloc (.cells (List.replicate (n + k) (.int .u8 0)).toArray 5)) := by
  obtain ⟨i, hi, hzz⟩ := Option.map_eq_some_iff.1 infoU8
  simp only [Prod.mk.injEq] at hzz
  obtain ⟨hz, hs, hb⟩ := hzz
  have := run_make (P := Try.prog) w 22 5 i (.int .u8 0) Try.underlying22 hi hz .i64 .i64 (n : Int) ((n : Int) + (k : Int)) (by omega) (by omega) (by rw [hb]; omega) (by omega)
  rw [this, hs]
  have e1 : ((n : Int) + (k : Int)).toNat = n + k := by omega
  have e2 : madeCells (Value.int .u8 0).cells ((n + k) * 1) = (List.replicate (n + k) (Value.int .u8 0)).toArray := by
    rw [Nat.mul_one]
    apply Array.ext
    · simp [madeCells]
    · intro i h1 h2
      simp [madeCells, Value.cells, Nat.mod_one]
  rw [e1, e2]
  simp
theorem infoU8s : ((Try.prog.info? 5).map (·.size)) = some 1 := by kernel_rfl

theorem rd_two (w : World) (l : List UInt8) {x y : Int} (hx : x = ((crc l).toNat : Int) % 256) (hy : y % 256 = ((crc l).toNat : Int) / 256) (h0 : 0 ≤ y) (h1 : y < 256) : Rd (w.alloc (.cells #[.int .u8 x, .int .u8 y] 5)) (some ⟨w.heap.size, 0, none⟩) (bys (sum l)) := by
  have h := (crc l).isLt
  have e1 : x = ((UInt8.ofNat ((crc l).toNat % 256)).toNat : Int) := by
    rw [UInt8.toNat_ofNat_of_lt' (show (crc l).toNat % 256 < 256 by omega)]; omega
  have e2 : y = ((UInt8.ofNat ((crc l).toNat / 256)).toNat : Int) := by
    rw [UInt8.toNat_ofNat_of_lt' (show (crc l).toNat / 256 < 256 by omega)]; omega
  rw [e1, e2]
  refine ⟨by simp [bys, sum], fun j hj => ⟨_, rfl, ?_⟩⟩
  rw [addr_add0, blk_cell (blk_new w _)]
  have : j = 0 ∨ j = 1 := by simp [bys, sum] at hj; omega
  rcases this with rfl | rfl <;> simp [bys, sum]
theorem rd_sum (w : World) (l : List UInt8) : Rd (w.alloc (.cells #[.int .u8 (((crc l).toNat : Int) % 256), .int .u8 (((crc l).toNat : Int) / 256 % 256)] 5)) (some ⟨w.heap.size, 0, none⟩) (bys (sum l)) := by
  have h := (crc l).isLt
  exact rd_two w l rfl (by omega) (by omega) (by omega)
theorem rd_sum' (w : World) (l : List UInt8) : Rd (w.alloc (.cells #[.int .u8 (((crc l).toNat : Int) % 256), .int .u8 (((crc l).toNat : Int) / 256)] 5)) (some ⟨w.heap.size, 0, none⟩) (bys (sum l)) := by
  have h := (crc l).isLt
  exact rd_two w l rfl (by omega) (by omega) (by omega)
theorem wrap8_lo (x : BitVec 16) : IntKind.u8.wrap (x.toNat : Int) = ((UInt8.ofNat (x.toNat % 256)).toNat : Int) := by
  rw [UInt8.toNat_ofNat_of_lt' (show x.toNat % 256 < 256 by omega), IntKind.wrap_u8']; omega
theorem wrap8_hi (x : BitVec 16) : IntKind.u8.wrap ((x.toNat : Int) / 256) = ((UInt8.ofNat (x.toNat / 256)).toNat : Int) := by
  have := x.isLt
  rw [UInt8.toNat_ofNat_of_lt' (show x.toNat / 256 < 256 by omega), IntKind.wrap_u8']; omega

set_option maxRecDepth 20000 in
set_option maxHeartbeats 1000000 in
theorem close_any {A : Option Addr} {c : Nat} {l : List UInt8} {w : World} (hl : Rd w A (bys l)) (hlen : l.length ≤ 70368744177664) :
    Calls Try.prog 52 #[.slice A l.length c] w fun e w' => ∃ v, e = .returned v ∧ Own w' 5 v (bys (closed l)) ∧ Hid (∀ k, v.ownBlock = some k → w.heap.size ≤ k) ∧ Fr No w w' := by
  have HL := Lib.hid hl
  clear hl
  have hmk : ∀ w : World, (Instr.makeSlice 22 (.int .i64 (l.length : Int)) (.int .i64 ((l.length : Int) + 2))).run Try.prog w = .ok (.slice (some ⟨w.heap.size, 0, none⟩) l.length (l.length + 2)) (w.alloc (.cells (List.replicate (l.length + 2) (.int .u8 0)).toArray 5)) := fun w => make_u8 w l.length 2 (by omega)
  go_enter Try.func52, Try.ntmps52
  go_wp2_with (refine wpList_copy_splice rfl (.tmp 11) (.tmp 12) 22 22 rfl 5 Try.underlying22 infoU8s (some ⟨w.heap.size, 0, none⟩) A l.length (l.length + 2) l.length c rfl rfl w.heap.size 0 (List.replicate (l.length + 2) (.int .u8 0)) 5 (blk_new w _) (bys l) ?hn ?hpos ?hfit (bys_one' l) w.heap.size w ?hb (Nat.le_refl _) ?_)
  case hn => rw [bys_length]; simp
  case hpos =>
    intro h0
    rw [bys_length] at h0
    obtain ⟨ad, e, _⟩ := HL.out.byte (j := 0) h0
    refine ⟨ad, e, fun j v hj => ?_⟩
    have hj' : j < l.length := by have := (List.getElem?_eq_some_iff.1 hj).1; rwa [bys_length] at this
    obtain ⟨ad', e', hc⟩ := (HL.out.no ((Fr.refl No w).alloc (.cells (Array.replicate (l.length + 2) (.int .u8 0)) 5))).byte (j := j) hj'
    rw [e] at e'
    cases e'
    rw [hc]
    simp only [bys, List.getElem?_map, List.getElem?_eq_getElem hj', Option.map_some, Option.some.injEq] at hj
    rw [← hj, List.getD_eq_getElem?_getD, List.getElem?_eq_getElem hj']
    rfl
  case hfit => rw [bys_length]; simp
  case hb => exact ((Fr.refl No w).alloc _).below
  intro w1 G1 B1
  have F1 : Fr No w w1 := Fr.of_below B1
  have O1 : Own w1 5 (.slice (some ⟨w.heap.size, 0, none⟩) l.length (l.length + 2)) (bys l) := by
    refine ⟨by simp [bys_length], .inr ⟨w.heap.size, l.length + 2, _, by rw [bys_length], Nat.zero_le _, G1.out, by rw [bys_length]; omega, by simp only [maxLen]; omega, ?_, ?_⟩⟩
    · simp [splice, bys_length]
    · simp [splice, bys_length]
  have C1 := Lib.hid (fun y => crcOf_any A c l (w1.drewN y) (HL.out.no (F1.drewN y)))
  clear G1 B1 hmk
  go_wp2_with fail
  refine (C1.out 0).mono ?_
  rintro e w2 ⟨rfl, rfl⟩
  have wl := wrap8_lo (crc l)
  have wh := wrap8_hi (crc l)
  go_wp2_with (at_builtin; go_loud (refine own_extend rfl (.tmp 16) (.tmp 22) 22 5 (.int .u8 0) 1 rfl Try.underlying22 infoU8 rfl (by decide) (.slice (some ⟨w.heap.size, 0, none⟩) l.length (l.length + 2)) (bys l) (bys (sum l)) (some ⟨w1.heap.size, 0, none⟩) 2 2 rfl rfl rfl (fun h => by cases h) ?hR (bys_one' (sum l)) ?hO ?hl ?_))
  case hR => exact rd_sum (w1.drewN 0) l
  case hO => exact O1.alloc _
  case hl => rw [bys_length, bys_length]; simp [sum]; omega
  intro v1 w3 o1 f1 a1
  have f1' : Fr No w w3 := ((F1.drewN 0).alloc _).trans f1 (fun i hi => .inr (by simp only [Value.ownBlock, Option.some.injEq] at hi; omega))
  have b1 : ∀ k, v1.ownBlock = some k → w.heap.size ≤ k := by
    intro k hk
    rcases a1 with e | ⟨b, e, hb⟩
    · rw [e] at hk; simp only [Value.ownBlock, Option.some.injEq] at hk; omega
    · rw [e] at hk; cases hk; exact Nat.le_trans F1.size (Nat.le_trans (Nat.le_succ _) (by simpa using hb))
  have o1' : Own w3 5 v1 (bys (closed l)) := by unfold closed; rw [bys_append]; exact o1
  have B1 := Lib.hid b1
  clear o1 f1 a1 b1
  go_wp2
  go_ret
  exact ⟨_, rfl, o1', B1, f1'⟩
end Go.Proofs.Ytfnlimcgoeknjaa
