import Derived.Test.YtngjfebndhmlmaaRefM
import Derived.Test.YtngjfebndhmlmaaSameM
namespace Go.Proofs.Ytngjfebndhmlmaa
open Go.RowKit Go

set_option maxRecDepth 20000 in
set_option maxHeartbeats 4000000 in
theorem reads_any {A : Option Addr} {c : Nat} {p : List UInt8} {w : World} (hl : Rd w A (bys p)) (hc : p.length ≤ c) (hlen : p.length ≤ 1000000) :
    Calls Try.prog 10 #[.slice A p.length c] w fun e w' => e = .returned (.bool true) ∧ Fr No w w' := by
  have HL := Lib.hid hl
  have HD := Lib.hid (decode_any hl hc hlen)
  obtain ⟨m, hm⟩ : ∃ m, (decAll p).1 = m := ⟨_, rfl⟩
  obtain ⟨k, hk⟩ : ∃ k, (decAll p).2 = k := ⟨_, rfl⟩
  rw [hm, hk] at HD
  clear hl
  go_enter Try.func10, Try.ntmps10
  go_wp2_with fail
  refine HD.out.mono ?_
  rintro e w1 ⟨A1, c1, rfl, R1, _, F1⟩
  have F1' := F1.alloc (.cells #[.int .u8 (m.k : Int), .int .i64 m.t, .int .i64 m.tm, .int .i64 m.d, .int .i64 m.a, .bool m.wh, .slice A1 m.tr.length c1] 34)
  have HR := Lib.hid (refDecode_any (HL.out.no F1') hc hlen)
  rw [hm, hk] at HR
  have HR1 := Lib.hid (R1.no ((Fr.refl No w1).alloc (.cells #[.int .u8 (m.k : Int), .int .i64 m.t, .int .i64 m.tm, .int .i64 m.d, .int .i64 m.a, .bool m.wh, .slice A1 m.tr.length c1] 34)))
  have B1 : (w1.alloc (.cells #[.int .u8 (m.k : Int), .int .i64 m.t, .int .i64 m.tm, .int .i64 m.d, .int .i64 m.a, .bool m.wh, .slice A1 m.tr.length c1] 34)).heap[w1.heap.size]? = some (.cells #[.int .u8 (m.k : Int), .int .i64 m.t, .int .i64 m.tm, .int .i64 m.d, .int .i64 m.a, .bool m.wh, .slice A1 m.tr.length c1] 34 (0, 0)) := blk_new _ _
  obtain ⟨g, hg⟩ : ∃ g, w1.heap.size = g := ⟨_, rfl⟩
  rw [hg] at B1
  have HB1 := Lib.hid B1
  have HF1 := Lib.hid F1'
  clear R1 F1 F1' B1 HD hm hk
  unfold mval
  go_wp2_with fail
  refine HR.out.mono ?_
  rintro e w2 ⟨A2, c2, rfl, R2, F2⟩
  have F2' := (Fr.refl No w2).alloc (.cells #[.int .u8 (m.k : Int), .int .i64 m.t, .int .i64 m.tm, .int .i64 m.d, .int .i64 m.a, .bool m.wh, .slice A2 m.tr.length c2] 34)
  have HS := Lib.hid (refSame_any (c := c1) (d := c2) ((HR1.out.no F2).no F2') (R2.no F2'))
  rw [msame_self] at HS
  obtain ⟨q0, q1, q2, q3, q4, q5, q6, _, _, _, _, _, _, _⟩ := seven (blk_alloc (F2.heap HB1.out (fun k => k)) (.cells #[.int .u8 (m.k : Int), .int .i64 m.t, .int .i64 m.tm, .int .i64 m.d, .int .i64 m.a, .bool m.wh, .slice A2 m.tr.length c2] 34))
  have HF2 := Lib.hid ((HF1.out.trans F2 (fun _ k => k.elim)).trans F2' (fun _ k => k.elim))
  clear R2 F2 F2' HR HB1
  unfold mval at HS ⊢
  go_wp2_with fail
  refine HS.out.mono ?_
  rintro e w3 ⟨rfl, F3⟩
  go_wp2
  go_ret
  exact ⟨rfl, HF2.out.trans F3 (fun _ k => k.elim)⟩
end Go.Proofs.Ytngjfebndhmlmaa
