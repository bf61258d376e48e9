import Derived.Test.YtngjfebndhmlmaaBackP
namespace Go.Proofs.Ytngjfebndhmlmaa
open Go.RowKit Go

set_option maxRecDepth 20000 in
set_option maxHeartbeats 4000000 in
theorem messageBack_any {A : Option Addr} {c : Nat} {K t0 d0 m0 a0 : Nat} {wh : Bool} {tl : List UInt8} {w : World} (hR : Rd w A (bys tl)) :
    Calls Try.prog 7 #[.agg #[.int .u8 (K : Int), .int .u8 (t0 : Int), .int .u8 (d0 : Int), .int .u32 (m0 : Int), .int .u16 (a0 : Int), .bool wh, .slice A tl.length c]] w fun e w' => e = .returned (.bool true) ∧ Fr No w w' := by
  have F0 := (Fr.refl No w).alloc (.cells #[.int .u8 (K : Int), .int .u8 (t0 : Int), .int .u8 (d0 : Int), .int .u32 (m0 : Int), .int .u16 (a0 : Int), .bool wh, .slice A tl.length c] 29)
  have HO := Lib.hid (of_any (K := K) (t0 := t0) (d0 := d0) (m0 := m0) (a0 := a0) (wh := wh) (c := c) (hR.no F0))
  have hgd := good_ofM K t0 d0 m0 a0 wh tl
  obtain ⟨m, hm⟩ : ∃ m, ofM K t0 d0 m0 a0 wh tl = m := ⟨_, rfl⟩
  rw [hm] at HO hgd
  have HG := Lib.hid hgd
  have hml := Lib.hid (mbits_le m hgd.len)
  have HF0 := Lib.hid F0
  clear hR F0 hm hgd
  go_enter Try.func7, Try.ntmps7
  go_wp2_with fail
  refine HO.out.mono ?_
  rintro e w1 ⟨A1, c1, rfl, R1, F1⟩
  have FA := F1.alloc (.cells #[.int .u8 (m.k : Int), .int .i64 m.t, .int .i64 m.tm, .int .i64 m.d, .int .i64 m.a, .bool m.wh, .slice A1 m.tr.length c1] 34)
  have B1 : (w1.alloc (.cells #[.int .u8 (m.k : Int), .int .i64 m.t, .int .i64 m.tm, .int .i64 m.d, .int .i64 m.a, .bool m.wh, .slice A1 m.tr.length c1] 34)).heap[w1.heap.size]? = some (.cells #[.int .u8 (m.k : Int), .int .i64 m.t, .int .i64 m.tm, .int .i64 m.d, .int .i64 m.a, .bool m.wh, .slice A1 m.tr.length c1] 34 (0, 0)) := blk_new _ _
  have R2 := R1.no ((Fr.refl No w1).alloc (.cells #[.int .u8 (m.k : Int), .int .i64 m.t, .int .i64 m.tm, .int .i64 m.d, .int .i64 m.a, .bool m.wh, .slice A1 m.tr.length c1] 34))
  have HE := Lib.hid (encode_any (c := c1) R2 (by have := HG.out.k; omega) (by have := HG.out.len; omega))
  obtain ⟨g, hg⟩ : ∃ g, w1.heap.size = g := ⟨_, rfl⟩
  rw [hg] at B1
  have HB1 := Lib.hid B1
  have HR2 := Lib.hid R2
  have HF1 := Lib.hid (HF0.out.trans FA (fun _ k => k.elim))
  obtain ⟨P, hP⟩ : ∃ P, pack (mbits m) = P := ⟨_, rfl⟩
  have hPl : P.length ≤ 30 := by rw [← hP, pack_length]; have := hml.out; omega
  have hPd : decAll (closed P) = (m, 0) := by rw [decAll_closed, ← hP, dec_back m HG.out]; rfl
  rw [hP] at HE
  have HP := Lib.hid hP
  have HPD := Lib.hid hPd
  clear F1 FA B1 R1 R2 HO hP hPd HF0
  unfold mval at HE
  unfold mval
  go_wp2_with fail
  refine HE.out.mono ?_
  rintro e w2 ⟨v2, rfl, O2, _, F2⟩
  obtain ⟨Q2, c2, rfl, _, hc2, RP⟩ := O2.shape2
  rw [bys_length] at hc2 ⊢
  have HD := Lib.hid (decode_any (c := c2) RP hc2 (by rw [closed_length]; omega))
  rw [HPD.out] at HD
  have HRP := Lib.hid RP
  have HF2 := Lib.hid F2
  clear O2 RP F2 HE
  go_wp2_with fail
  refine HD.out.mono ?_
  rintro e w3 ⟨A3, c3, rfl, R3, _, F3⟩
  have FB := (Fr.refl No w3).alloc (.cells #[.int .u8 (m.k : Int), .int .i64 m.t, .int .i64 m.tm, .int .i64 m.d, .int .i64 m.a, .bool m.wh, .slice A3 m.tr.length c3] 34)
  have B3 : (w3.alloc (.cells #[.int .u8 (m.k : Int), .int .i64 m.t, .int .i64 m.tm, .int .i64 m.d, .int .i64 m.a, .bool m.wh, .slice A3 m.tr.length c3] 34)).heap[w3.heap.size]? = some (.cells #[.int .u8 (m.k : Int), .int .i64 m.t, .int .i64 m.tm, .int .i64 m.d, .int .i64 m.a, .bool m.wh, .slice A3 m.tr.length c3] 34 (0, 0)) := blk_new _ _
  have F3B := F3.trans FB (fun _ k => k.elim)
  have F2B := HF2.out.trans F3B (fun _ k => k.elim)
  have HB2 := Lib.hid (F2B.heap HB1.out (fun k => k))
  have HR3 := Lib.hid (R3.no FB)
  have HRA := Lib.hid (HR2.out.no F2B)
  have HRQ := Lib.hid (HRP.out.no F3B)
  have HF3 := Lib.hid (HF1.out.trans F2B (fun _ k => k.elim))
  obtain ⟨h, hh⟩ : ∃ h, w3.heap.size = h := ⟨_, rfl⟩
  rw [hh] at B3
  have HB3 := Lib.hid B3
  clear F3 FB B3 R3 F3B F2B HF1 HF2 HB1 HR2 HRP HD
  unfold mval
  go_wp2_with fail
  refine (open_law _).mono ?_
  rintro e w4 ⟨rfl, F4⟩
  obtain ⟨p0, p1, p2, p3, p4, p5, p6, _⟩ := seven (F4.heap HB2.out (fun k => k))
  have HE2 := Lib.hid (refEncode_any (c := c1) (HRA.out.no F4) (by have := HG.out.k; omega) (by have := HG.out.len; omega))
  rw [HP.out] at HE2
  unfold mval at HE2
  have HF4 := Lib.hid F4
  clear F4
  go_wp2_with fail
  refine HE2.out.mono ?_
  rintro e w5 ⟨v5, rfl, O5, _, F5⟩
  obtain ⟨Q5, c5, rfl, _, _, R5⟩ := O5.shape2
  rw [bys_length]
  have F45 := HF4.out.trans F5 (fun _ k => k.elim)
  have HBB := Lib.hid (refBytes_any (c := c2) (d := c5) (HRQ.out.no F45) R5)
  rw [show decide (closed P = closed P) = true from decide_eq_true rfl] at HBB
  have HF5 := Lib.hid F45
  clear O5 R5 F5 F45 HF4 HE2 p0 p1 p2 p3 p4 p5 p6
  go_wp2_with fail
  refine HBB.out.mono ?_
  rintro e w6 ⟨rfl, F6⟩
  have F56 := HF5.out.trans F6 (fun _ k => k.elim)
  obtain ⟨p0, p1, p2, p3, p4, p5, p6, _⟩ := seven (F56.heap HB2.out (fun k => k))
  obtain ⟨r0, r1, r2, r3, r4, r5, r6, _⟩ := seven (F56.heap HB3.out (fun k => k))
  have HS := Lib.hid (refSame_any (c := c3) (d := c1) (HR3.out.no F56) (HRA.out.no F56))
  rw [msame_self] at HS
  unfold mval at HS
  have HF6 := Lib.hid F56
  clear F6 F56 HF5 HBB
  go_wp2_with fail
  refine HS.out.mono ?_
  rintro e w7 ⟨rfl, F7⟩
  have F67 := HF6.out.trans F7 (fun _ k => k.elim)
  clear p0 p1 p2 p3 p4 p5 p6 r0 r1 r2 r3 r4 r5 r6
  obtain ⟨p0, p1, p2, p3, p4, p5, p6, _⟩ := seven (F67.heap HB2.out (fun k => k))
  obtain ⟨r0, r1, r2, r3, r4, r5, r6, _⟩ := seven (F67.heap HB3.out (fun k => k))
  have HS2 := Lib.hid (msgSame_any (c := c3) (d := c1) (HR3.out.no F67) (HRA.out.no F67))
  rw [msame_self] at HS2
  unfold mval at HS2
  have HF7 := Lib.hid (HF3.out.trans F67 (fun _ k => k.elim))
  clear F7 F67 HF6 HS
  go_wp2_with fail
  refine HS2.out.mono ?_
  rintro e w8 ⟨rfl, F8⟩
  go_wp2
  go_ret
  exact ⟨rfl, HF7.out.trans F8 (fun _ k => k.elim)⟩
end Go.Proofs.Ytngjfebndhmlmaa
