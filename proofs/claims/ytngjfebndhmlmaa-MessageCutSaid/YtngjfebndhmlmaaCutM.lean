import Derived.Test.YtngjfebndhmlmaaCutP
namespace Go.Proofs.Ytngjfebndhmlmaa
open Go.RowKit Go

set_option maxRecDepth 20000 in
set_option maxHeartbeats 4000000 in
theorem messageCut_any {A : Option Addr} {c : Nat} {K t0 d0 m0 a0 : Nat} {wh : Bool} {tl : List UInt8} {w : World} (n : Int) (hn : 0 ≤ n ∧ n < 256) (hR : Rd w A (bys tl)) :
    Calls Try.prog 6 #[.agg #[.int .u8 (K : Int), .int .u8 (t0 : Int), .int .u8 (d0 : Int), .int .u32 (m0 : Int), .int .u16 (a0 : Int), .bool wh, .slice A tl.length c], .int .u8 n] w fun e w' => e = .returned (.bool true) ∧ Fr No w w' := by
  have HR := Lib.hid hR
  have F0 := (Fr.refl No w).alloc (.cells #[.int .u8 (K : Int), .int .u8 (t0 : Int), .int .u8 (d0 : Int), .int .u32 (m0 : Int), .int .u16 (a0 : Int), .bool wh, .slice A tl.length c] 29)
  have B0 : (w.alloc (.cells #[.int .u8 (K : Int), .int .u8 (t0 : Int), .int .u8 (d0 : Int), .int .u32 (m0 : Int), .int .u16 (a0 : Int), .bool wh, .slice A tl.length c] 29)).heap[w.heap.size]? = some (.cells #[.int .u8 (K : Int), .int .u8 (t0 : Int), .int .u8 (d0 : Int), .int .u32 (m0 : Int), .int .u16 (a0 : Int), .bool wh, .slice A tl.length c] 29 (0, 0)) := blk_new _ _
  have HB0 := Lib.hid B0
  have HF0 := Lib.hid F0
  clear hR B0 F0
  go_enter Try.func6, Try.ntmps6
  go_wp2_with fail
  refine (open_law _).mono ?_
  rintro e w1 ⟨rfl, F1⟩
  obtain ⟨s0, s1, s2, s3, s4, s5, s6, _⟩ := seven (F1.heap HB0.out (fun k => k))
  have G1 := HF0.out.trans F1 (fun _ k => k.elim)
  have HO := Lib.hid (of_any (K := K) (t0 := t0) (d0 := d0) (m0 := m0) (a0 := a0) (wh := wh) (c := c) (HR.out.no G1))
  have hgd := good_ofM K t0 d0 m0 a0 wh tl
  obtain ⟨m, hm⟩ : ∃ m, ofM K t0 d0 m0 a0 wh tl = m := ⟨_, rfl⟩
  rw [hm] at HO hgd
  have hml := mbits_le m hgd.len
  have HGD := Lib.hid hgd
  have HG1 := Lib.hid G1
  clear G1 F1 HB0 HF0 hm hgd
  go_wp2_with fail
  refine HO.out.mono ?_
  rintro e w2 ⟨A2, c2, rfl, R2, F2⟩
  have HE := Lib.hid (refEncode_any (c := c2) R2 (by have := HGD.out.k; omega) (by have := HGD.out.len; omega))
  have HG2 := Lib.hid (HG1.out.trans F2 (fun _ k => k.elim))
  obtain ⟨X, hX⟩ : ∃ X, pack (mbits m) = X := ⟨_, rfl⟩
  have hXl : 5 ≤ X.length ∧ X.length ≤ 30 := by rw [← hX, pack_length]; omega
  have hcutl : ∀ k, k < X.length → decAll (closed ((closed X).take k)) = (mnone, 4) := by
    intro k hk
    have e : (closed X).take k = X.take k := by unfold closed; rw [List.take_append_of_le_length (by omega)]
    rw [e, decAll_closed, ← hX, dec_cut m HGD.out k (by rw [hX]; exact hk)]
    rfl
  rw [hX] at HE
  obtain ⟨L, hL⟩ : ∃ L, X.length = L := ⟨_, rfl⟩
  rw [hL] at hXl hcutl
  have HL := Lib.hid (show (closed X).length = L + 2 by rw [closed_length, hL])
  have HCL := Lib.hid hcutl
  clear R2 F2 HO hX s0 s1 s2 s3 s4 s5 s6 HG1 hcutl hL hml
  go_wp2_with fail
  refine HE.out.mono ?_
  rintro e w3 ⟨v3, rfl, O3, _, F3⟩
  obtain ⟨q, cc, hv, hcc, hcm, _, _, _, _, _⟩ := O3.form (by rw [bys_length, HL.out]; omega)
  rw [bys_length, HL.out] at hv hcc
  subst hv
  have R3 := O3.rd.1
  obtain ⟨k, hk⟩ := Int.eq_ofNat_of_zero_le (show 0 ≤ n % (L : Int) from Int.emod_nonneg _ (by omega))
  have hkn : k < L := by
    have := Int.emod_lt_of_pos n (show 0 < (L : Int) by omega)
    omega
  have i0 : IntKind.i64.wrap n = n := by rw [IntKind.wrap_i64]; omega
  have i1 : IntKind.i64.wrap (((L + 2 : Nat) : Int) - 2) = (L : Int) := by rw [IntKind.wrap_i64]; omega
  have i1' : (((L + 2 : Nat) : Int) - 2) = (L : Int) := by omega
  have i2 : n.tmod (L : Int) = (k : Int) := by rw [Int.tmod_eq_emod_of_nonneg hn.1]; exact hk
  have i3 : ¬ (L : Int) = 0 := by omega
  have i4 : IntKind.i64.wrap (k : Int) = (k : Int) := by rw [IntKind.wrap_i64]; omega
  have i5 : (0 : Int) ≤ (k : Int) := by omega
  have i6 : (k : Int) ≤ (cc : Int) := by omega
  have RT := R3.take k
  have hTn : ((closed X).take k).length = k := by rw [List.length_take, HL.out]; omega
  have HC := Lib.hid (refClose_any (c := cc) RT (fun h => by cases h) (by omega))
  have hdl := HCL.out k hkn
  obtain ⟨Y, hY⟩ : ∃ Y, (closed X).take k = Y := ⟨_, rfl⟩
  rw [hY] at hTn HC hdl
  rw [hTn] at HC
  have hYl : (closed Y).length ≤ 40 := by rw [closed_length]; omega
  have HDL := Lib.hid hdl
  have HG3 := Lib.hid (HG2.out.trans F3 (fun _ k => k.elim))
  clear O3 R3 F3 HE HG2 hk RT hY hdl hTn hkn
  go_wp2_with fail
  refine HC.out.mono ?_
  rintro e w4 ⟨v4, rfl, O4, _, F4⟩
  obtain ⟨Q4, c4, rfl, _, hc4, R4⟩ := O4.shape2
  rw [bys_length] at hc4 ⊢
  have HD := Lib.hid (decode_any (c := c4) R4 hc4 (by omega))
  rw [HDL.out] at HD
  have HG4 := Lib.hid (HG3.out.trans F4 (fun _ k => k.elim))
  clear O4 R4 F4 HC
  unfold mval mnone at HD
  simp only at HD
  go_wp2_with fail
  refine HD.out.mono ?_
  rintro e w5 ⟨A5, c5, rfl, R5, _, F5⟩
  have FA := (Fr.refl No w5).alloc (.cells #[.int .u8 0, .int .i64 0, .int .i64 0, .int .i64 0, .int .i64 0, .bool false, .slice A5 0 c5] 34)
  have HS := Lib.hid (refSame_any (m := mnone) (n := mnone) (c := c5) (A := A5) (d := 0) (B := none) (R5.no FA) (Rd.nil _ _))
  rw [msame_self] at HS
  have HG5 := Lib.hid ((HG4.out.trans F5 (fun _ k => k.elim)).trans FA (fun _ k => k.elim))
  clear R5 F5 FA HD HG4
  unfold mval mnone at HS
  simp only at HS
  go_wp2_with fail
  refine HS.out.mono ?_
  rintro e w6 ⟨rfl, F6⟩
  go_wp2
  go_ret
  exact ⟨rfl, HG5.out.trans F6 (fun _ k => k.elim)⟩
end Go.Proofs.Ytngjfebndhmlmaa
