import Derived.Test.YtngjfebndhmlmaaOfM
import Derived.Test.YtngjfebndhmlmaaOpn
import Derived.Test.YtngjfebndhmlmaaJoin
import Derived.StillTailTactics
import Derived.Deep.DeepCutAuto
import Derived.Lib.SmallJoins
namespace Go.Proofs.Ytngjfebndhmlmaa
open Go.RowKit Go Go.ChangeShapes Go.WideShapes Go.Deep

theorem xor_pow (b : UInt8) (t : Nat) (ht : t < 8) : bits .xor .u8 (b.toNat : Int) ((2 : Int) ^ t % 256) = ((b ^^^ UInt8.ofNat (2 ^ t)).toNat : Int) := by
  have h2 : 2 ^ t < 256 := Nat.lt_of_lt_of_le (Nat.pow_lt_pow_right (by omega) ht) (by decide)
  have e : ((2 : Int) ^ t % 256) = ((2 ^ t : Nat) : Int) := by
    have : ((2 : Int) ^ t) = ((2 ^ t : Nat) : Int) := by simp
    rw [this]
    generalize 2 ^ t = p at *
    omega
  rw [e, u8_xor_nat _ _ b.toNat_lt h2, UInt8.toNat_xor, UInt8.toNat_ofNat_of_lt' h2]
theorem xor_wrap (b : UInt8) (t : Nat) (ht : t < 8) : bits .xor .u8 (b.toNat : Int) (IntKind.u8.wrap ((2 : Int) ^ t)) = ((b ^^^ UInt8.ofNat (2 ^ t)).toNat : Int) := by
  rw [IntKind.wrap_u8]
  exact xor_pow b t ht
theorem code_flip (l : List UInt8) (j : Nat) (h : reg l = K) (h2 : 2 ≤ l.length) (hj : j < 8 * l.length) : code (flip l j) = 3 := by
  have hne : reg (flip l j) ≠ K := by
    intro e
    unfold reg at e h
    rw [regx_flip l _ j hj] at e
    rw [h] at e
    have e2 : turns (8 * l.length - j) 1#16 = 0#16 := by
      have h3 : K ^^^ (K ^^^ turns (8 * l.length - j) 1#16) = K ^^^ K := by rw [e]
      rw [← BitVec.xor_assoc] at h3
      simpa using h3
    exact absurd (turns_ne _ e2) (by decide)
  unfold code
  rw [flip_length, if_neg (by omega), if_neg hne]
theorem decAll_flip (l : List UInt8) (j : Nat) (h : reg l = K) (h2 : 2 ≤ l.length) (hj : j < 8 * l.length) : decAll (flip l j) = (mnone, 3) := by
  unfold decAll
  rw [code_flip l j h h2 hj, if_neg (by decide)]
theorem Rd.take {w : World} {A : Option Addr} {l : List UInt8} (h : Rd w A (bys l)) (m : Nat) : Rd w A (bys (l.take m)) := by
  refine ⟨by have := h.1; rw [bys_length] at this ⊢; rw [List.length_take]; omega, fun j hj => ?_⟩
  rw [bys_length, List.length_take] at hj
  obtain ⟨a, e, hc⟩ := h.2 j (by rw [bys_length]; omega)
  refine ⟨a, e, ?_⟩
  rw [hc, bys_getD _ (by omega), bys_getD _ (by rw [List.length_take]; omega)]
  simp [List.getD_eq_getElem?_getD, show j < m by omega]
theorem ofM_k (K t0 d0 m0 a0 : Nat) (wh : Bool) (tl : List UInt8) : (ofM K t0 d0 m0 a0 wh tl).k < 256 ∧ (ofM K t0 d0 m0 a0 wh tl).tr.length ≤ 15 := by
  refine ⟨by show K % 6 + 1 < 256; omega, ?_⟩
  show List.length (if K % 6 + 1 = 3 ∨ K % 6 + 1 = 6 then low6 (tl.take (min tl.length 15)) else []) ≤ 15
  split
  · rw [low6_length, List.length_take]; omega
  · simp
theorem mbits_le (m : Msg) (h : m.tr.length ≤ 15) : 34 ≤ (mbits m).length ∧ (mbits m).length ≤ 200 := by
  unfold mbits
  simp only [List.length_append, putBits_length, List.length_nil]
  split <;> split <;> simp only [List.length_append, putBits_length, List.length_cons, List.length_nil, tbits_length] <;> omega

set_option maxRecDepth 20000 in
set_option maxHeartbeats 4000000 in
theorem messageTurned_any {A B : Option Addr} {c d : Nat} {K t0 d0 m0 a0 : Nat} {wh : Bool} {tl more : List UInt8} {w : World} (at_ cut : Int) (hat : 0 ≤ at_ ∧ at_ < 65536) (hcut : 0 ≤ cut ∧ cut < 256) (hR : Rd w A (bys tl)) (hM : Rd w B (bys more)) (hB : B = none → d = 0) :
    Calls Try.prog 4 #[.agg #[.int .u8 (K : Int), .int .u8 (t0 : Int), .int .u8 (d0 : Int), .int .u32 (m0 : Int), .int .u16 (a0 : Int), .bool wh, .slice A tl.length c], .int .u16 at_, .int .u8 cut, .slice B more.length d] w fun e w' => e = .returned (.bool true) ∧ Fr No w w' := by
  have HR := Lib.hid hR
  have HM := Lib.hid hM
  have HB := Lib.hid hB
  have F0 := (Fr.refl No w).alloc (.cells #[.int .u8 (K : Int), .int .u8 (t0 : Int), .int .u8 (d0 : Int), .int .u32 (m0 : Int), .int .u16 (a0 : Int), .bool wh, .slice A tl.length c] 29)
  have B0 : (w.alloc (.cells #[.int .u8 (K : Int), .int .u8 (t0 : Int), .int .u8 (d0 : Int), .int .u32 (m0 : Int), .int .u16 (a0 : Int), .bool wh, .slice A tl.length c] 29)).heap[w.heap.size]? = some (.cells #[.int .u8 (K : Int), .int .u8 (t0 : Int), .int .u8 (d0 : Int), .int .u32 (m0 : Int), .int .u16 (a0 : Int), .bool wh, .slice A tl.length c] 29 (0, 0)) := blk_new _ _
  have HB0 := Lib.hid B0
  have HF0 := Lib.hid F0
  clear hR hM hB B0 F0
  go_enter Try.func4, Try.ntmps4
  go_wp2_with fail
  refine (open_law _).mono ?_
  rintro e w1 ⟨rfl, F1⟩
  by_cases h20 : 20 < more.length
  · go_wp2_with fail
    refine (open_law _).mono ?_
    rintro e w2 ⟨rfl, F2⟩
    go_wp2
    go_ret
    exact ⟨rfl, (HF0.out.trans F1 (fun _ k => k.elim)).trans F2 (fun _ k => k.elim)⟩
  · obtain ⟨s0, s1, s2, s3, s4, s5, s6, _⟩ := seven (F1.heap HB0.out (fun k => k))
    have G1 := HF0.out.trans F1 (fun _ k => k.elim)
    have HO := Lib.hid (of_any (K := K) (t0 := t0) (d0 := d0) (m0 := m0) (a0 := a0) (wh := wh) (c := c) (HR.out.no G1))
    have hmk := ofM_k K t0 d0 m0 a0 wh tl
    obtain ⟨m, hm⟩ : ∃ m, ofM K t0 d0 m0 a0 wh tl = m := ⟨_, rfl⟩
    rw [hm] at HO hmk
    have hml := mbits_le m hmk.2
    have HG1 := Lib.hid G1
    clear G1 F1 HB0 HF0 hm
    go_wp2_with fail
    refine HO.out.mono ?_
    rintro e w2 ⟨A2, c2, rfl, R2, F2⟩
    have HE := Lib.hid (refEncode_any (c := c2) R2 hmk.1 (by omega))
    have HG2 := Lib.hid (HG1.out.trans F2 (fun _ k => k.elim))
    obtain ⟨P, hP⟩ : ∃ P, closed (pack (mbits m)) = P := ⟨_, rfl⟩
    have hPl : P.length = ((mbits m).length + 7) / 8 + 2 := by rw [← hP, closed_length, pack_length]
    have hPK : reg P = Go.Proofs.Ytngjfebndhmlmaa.K := by rw [← hP]; exact reg_closed _
    rw [hP] at HE
    obtain ⟨n, hn⟩ : ∃ n, P.length = n := ⟨_, rfl⟩
    have hn7 : 7 ≤ n ∧ n ≤ 30 := by omega
    have HN := Lib.hid hn
    have HPK := Lib.hid hPK
    clear R2 F2 HO hP hPl hPK hmk hml s0 s1 s2 s3 s4 s5 s6 HG1
    go_wp2_with fail
    refine HE.out.mono ?_
    rintro e w3 ⟨v3, rfl, O3, _, F3⟩
    obtain ⟨Q3, c3, rfl, hQ3, _, R3⟩ := O3.shape2
    rw [bys_length, hn]
    have HJ := Lib.hid (join_any (c := c3) (B := none) (d := 0) (m := []) R3 (Rd.nil _ _) hQ3 (fun _ => rfl) (by simp; omega))
    rw [hn, List.append_nil] at HJ
    have HG3 := Lib.hid (HG2.out.trans F3 (fun _ k => k.elim))
    clear O3 R3 F3 HE HG2 hn hQ3
    go_wp2_with fail
    refine HJ.out.mono ?_
    rintro e w4 ⟨v4, rfl, O4, N4, F4⟩
    obtain ⟨q, cc, hv, hcc, hcm, hown, hqw, hfz, hcl, hset⟩ := O4.form (by rw [bys_length, HN.out]; omega)
    rw [bys_length, HN.out] at hv hcc
    subst hv
    have hqn := N4.out q rfl
    have HG4 := Lib.hid (HG3.out.trans F4 (fun _ k => k.elim))
    have hqw0 : Hid (w.heap.size ≤ q) := by show w.heap.size ≤ q; exact Nat.le_trans HG3.out.size hqn
    obtain ⟨k, hk⟩ := Int.eq_ofNat_of_zero_le (show 0 ≤ at_ % ((8 * n : Nat) : Int) from Int.emod_nonneg _ (by omega))
    have hkn : k < 8 * n := by
      have := Int.emod_lt_of_pos at_ (show 0 < ((8 * n : Nat) : Int) by omega)
      omega
    obtain ⟨D, hD⟩ : ∃ D, k / 8 = D := ⟨_, rfl⟩
    obtain ⟨t, ht⟩ : ∃ t, k % 8 = t := ⟨_, rfl⟩
    have hDn : D < n := by omega
    have ht8 : t < 8 := by omega
    have i0 : IntKind.i64.wrap at_ = at_ := by rw [IntKind.wrap_i64]; omega
    have i1 : IntKind.i64.wrap (8 * (n : Int)) = ((8 * n : Nat) : Int) := by rw [IntKind.wrap_i64]; omega
    have i2 : at_.tmod ((8 * n : Nat) : Int) = (k : Int) := by rw [Int.tmod_eq_emod_of_nonneg hat.1]; exact hk
    have i3 : ¬ ((8 * n : Nat) : Int) = 0 := by omega
    have i4 : IntKind.i64.wrap (k : Int) = (k : Int) := by rw [IntKind.wrap_i64]; omega
    have j1 : (k : Int).tdiv 8 = (D : Int) := by rw [Int.tdiv_eq_ediv_of_nonneg (by omega)]; omega
    have j2 : (k : Int).tmod 8 = (t : Int) := by rw [Int.tmod_eq_emod_of_nonneg (by omega)]; omega
    have j3 : IntKind.i64.wrap (D : Int) = (D : Int) := by rw [IntKind.wrap_i64]; omega
    have j4 : IntKind.i64.wrap (t : Int) = (t : Int) := by rw [IntKind.wrap_i64]; omega
    have j5 : (0 : Int) ≤ (D : Int) := by omega
    have j6 : (D : Int) < (n : Int) := by omega
    have j7 : (0 : Int) ≤ (t : Int) := by omega
    obtain ⟨N8, hN8⟩ : ∃ N8, ((8 * n : Nat) : Int) = N8 := ⟨_, rfl⟩
    rw [hN8] at i1 i2 i3
    obtain ⟨y, hy⟩ : ∃ y, P.getD D 0 = y := ⟨_, rfl⟩
    have q1 := hcl D (by rw [bys_length, HN.out]; exact hDn)
    rw [bys_getD _ (by rw [HN.out]; exact hDn), hy] at q1
    have q2 := hfz D
    have hf : Hid (flip P k = P.set D (y ^^^ UInt8.ofNat (2 ^ t))) := by show flip P k = _; unfold flip; rw [hD, ht, hy]
    have hkn2 := Lib.hid hkn
    have HS := Lib.hid (hset D (.int .u8 ((y ^^^ UInt8.ofNat (2 ^ t)).toNat : Int)) (by rw [bys_length, HN.out]; exact hDn))
    have T8 := Lib.hid ht8
    clear O4 N4 F4 HJ hset hcl hfz hown hqw hqn hk hD ht hy hN8 hkn HG3
    go_upto_region 5 with (fail)
    go_still_tail 10, (by kernel_rfl)
    go_upto_region 6 with (fail)
    rw [xor_wrap y t T8.out, xor_pow y t T8.out]
    have fs : Fr (fun i => i = q) w4 (w4.setCell ⟨q, D, none⟩ (.int .u8 ((y ^^^ UInt8.ofNat (2 ^ t)).toNat : Int))).drew := ((Fr.refl (fun i => i = q) w4).setCell (p := ⟨q, D, none⟩) (.inl rfl) _).drew
    have O5 : Own (w4.setCell ⟨q, D, none⟩ (.int .u8 ((y ^^^ UInt8.ofNat (2 ^ t)).toNat : Int))).drew 5 (.slice (some ⟨q, 0, none⟩) n cc) (bys (flip P k)) := by
      have := HS.out
      rw [bys_set] at this
      rw [hf.out]; exact this
    have HG5 := Lib.hid (HG4.out.trans fs (fun i hi => .inr (by rw [show i = q from hi]; exact hqw0.out)))
    obtain ⟨w5, hw5⟩ : ∃ w5, (w4.setCell ⟨q, D, none⟩ (.int .u8 ((y ^^^ UInt8.ofNat (2 ^ t)).toNat : Int))).drew = w5 := ⟨_, rfl⟩
    rw [hw5] at O5 HG5 ⊢
    have R5 := O5.rd.1
    obtain ⟨X, hX⟩ : ∃ X, flip P k = X := ⟨_, rfl⟩
    have hXn : X.length = n := by rw [← hX, flip_length]; exact HN.out
    have hXd : decAll X = (mnone, 3) := by rw [← hX]; exact decAll_flip P k HPK.out (by rw [HN.out]; omega) (by rw [HN.out]; exact hkn2.out)
    rw [hX] at R5
    have HD := Lib.hid (decode_any (c := cc) R5 (by rw [hXn]; exact hcc) (by omega))
    rw [hXd, hXn] at HD
    have HR5 := Lib.hid R5
    have HXN := Lib.hid hXn
    clear fs O5 hw5 R5 hX hXn hXd HS hf q1 q2 HG4 HPK HN i0 i1 i2 i3 i4 j1 j2 j3 j4 j5 j6 j7
    unfold mval mnone at HD
    simp only at HD
    go_wp2_with fail
    refine HD.out.mono ?_
    rintro e w6 ⟨A6, c6, rfl, _, _, F6⟩
    have FA := F6.alloc (.cells #[.int .u8 0, .int .i64 0, .int .i64 0, .int .i64 0, .int .i64 0, .bool false, .slice A6 0 c6] 34)
    have HG6 := Lib.hid (HG5.out.trans FA (fun _ k => k.elim))
    have HR6 := Lib.hid (HR5.out.no FA)
    obtain ⟨n2, rfl⟩ : ∃ n2, n = n2 + 2 := ⟨n - 2, by omega⟩
    have i1 : IntKind.i64.wrap (((n2 + 2 : Nat) : Int) - 2) = (n2 : Int) := by rw [IntKind.wrap_i64]; omega
    have i2 : (0 : Int) ≤ (n2 : Int) := by omega
    have i3 : (n2 : Int) ≤ (cc : Int) := by omega
    have i4 : IntKind.i64.wrap cut = cut := by rw [IntKind.wrap_i64]; omega
    have i5 : IntKind.i64.wrap ((n2 : Int) + 1) = ((n2 + 1 : Nat) : Int) := by rw [IntKind.wrap_i64]; omega
    clear F6 FA HD
    go_upto_if 59 with (fail)
    obtain ⟨wx, hwx⟩ : ∃ wx, w6.alloc (.cells #[.int .u8 0, .int .i64 0, .int .i64 0, .int .i64 0, .int .i64 0, .bool false, .slice A6 0 c6] 34) = wx := ⟨_, rfl⟩
    rw [hwx] at HG6 HR6 ⊢
    clear hwx
    go_cut [14] (fun s wc => (∃ M : Nat, M ≤ n2 ∧ s = .int .i64 (M : Int)) ∧ wc = wx)
    case first =>
      obtain ⟨r, hr⟩ := Int.eq_ofNat_of_zero_le (show 0 ≤ cut % ((n2 + 1 : Nat) : Int) from Int.emod_nonneg _ (by omega))
      have hrn : r ≤ n2 := by
        have := Int.emod_lt_of_pos cut (show 0 < ((n2 + 1 : Nat) : Int) by omega)
        omega
      by_cases h1 : cut % 2 = 1
      · have e1 : cut.tmod 2 = 1 := by rw [Int.tmod_eq_emod_of_nonneg hcut.1]; exact h1
        have e2 : cut.tmod ((n2 + 1 : Nat) : Int) = (r : Int) := by rw [Int.tmod_eq_emod_of_nonneg hcut.1]; exact hr
        have e3 : ¬ ((n2 + 1 : Nat) : Int) = 0 := by omega
        have e4 : IntKind.i64.wrap (r : Int) = (r : Int) := by rw [IntKind.wrap_i64]; omega
        have e5 : IntKind.i64.wrap ((n2 : Int) - (r : Int)) = ((n2 - r : Nat) : Int) := by rw [IntKind.wrap_i64]; omega
        obtain ⟨N1, hN1⟩ : ∃ N1, ((n2 + 1 : Nat) : Int) = N1 := ⟨_, rfl⟩
        rw [hN1] at i5 e2 e3 hr
        clear hN1
        go_wp2
        go_meet
        case rel => exact ⟨⟨n2 - r, by omega, rfl⟩, rfl⟩
      · have e1 : cut.tmod 2 = 0 := by rw [Int.tmod_eq_emod_of_nonneg hcut.1]; omega
        have h0 : cut % 2 = 0 := by omega
        clear hr h1
        go_wp2
        go_meet
        case rel => exact ⟨⟨n2, Nat.le_refl _, rfl⟩, rfl⟩
    case rest =>
      obtain ⟨⟨M, hM, rfl⟩, rfl⟩ := hcut
      have RT := HR6.out.take M
      have hTn : (X.take M).length = M := by rw [List.length_take, HXN.out]; omega
      have HC := Lib.hid (refClose_any (c := cc) RT (fun h => by cases h) (by omega))
      rw [hTn] at HC
      have HRT := Lib.hid RT
      have HTN := Lib.hid hTn
      have m1 : (0 : Int) ≤ (M : Int) := by omega
      have m2 : (M : Int) ≤ (cc : Int) := by omega
      have m3 : (M : Int) ≤ (n2 : Int) := by omega
      clear RT hTn
      go_wp2_with fail
      refine HC.out.mono ?_
      rintro e w7 ⟨v7, rfl, O7, _, F7⟩
      obtain ⟨Q7, c7, rfl, _, hc7, R7⟩ := O7.shape2
      rw [bys_length] at hc7 ⊢
      have HRD := Lib.hid (reads_any (c := c7) R7 hc7 (by rw [closed_length, HTN.out]; omega))
      have HF7 := Lib.hid F7
      clear O7 R7 F7 HC
      go_wp2_with fail
      refine HRD.out.mono ?_
      rintro e w8 ⟨rfl, F8⟩
      have F78 := HF7.out.trans F8 (fun _ k => k.elim)
      have HG8 := HG6.out.trans F78 (fun _ k => k.elim)
      have HJ := Lib.hid (join_any (c := cc) (d := d) (HRT.out.no F78) (HM.out.no HG8) (fun h => by cases h) HB.out (by rw [HTN.out]; omega))
      rw [HTN.out] at HJ
      have hYl : (X.take M ++ more).length ≤ 60 := by rw [List.length_append, HTN.out]; omega
      obtain ⟨Y, hY⟩ : ∃ Y, X.take M ++ more = Y := ⟨_, rfl⟩
      rw [hY] at HJ hYl
      clear hY
      have HHG8 := Lib.hid HG8
      clear F78 HG8 F8 HRD HF7
      go_wp2_with fail
      refine HJ.out.mono ?_
      rintro e w9 ⟨v9, rfl, O9, _, F9⟩
      obtain ⟨Q9, c9, rfl, hQ9, hc9, R9⟩ := O9.shape2
      rw [bys_length]
      have HC9 := Lib.hid (refClose_any (c := c9) R9 hQ9 (by omega))
      have HG9 := Lib.hid (HHG8.out.trans F9 (fun _ k => k.elim))
      clear O9 R9 F9 HJ hQ9
      go_wp2_with fail
      refine HC9.out.mono ?_
      rintro e w10 ⟨v10, rfl, O10, _, F10⟩
      obtain ⟨Q10, c10, rfl, _, hc10, R10⟩ := O10.shape2
      rw [bys_length] at hc10 ⊢
      have HRD := Lib.hid (reads_any (c := c10) R10 hc10 (by rw [closed_length]; omega))
      have HG10 := Lib.hid (HG9.out.trans F10 (fun _ k => k.elim))
      clear O10 R10 F10 HC9
      go_wp2_with fail
      refine HRD.out.mono ?_
      rintro e w11 ⟨rfl, F11⟩
      go_wp2
      go_ret
      exact ⟨rfl, HG10.out.trans F11 (fun _ k => k.elim)⟩
end Go.Proofs.Ytngjfebndhmlmaa
