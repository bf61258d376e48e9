import Derived.Test.YthimhjdanmejmaaOfI
import Derived.Test.YthimhjdanmejmaaJoin
import Derived.StillTailTactics
namespace Go.Proofs.Ythimhjdanmejmaa
open Go.RowKit Go Go.ChangeShapes Go.WideShapes Go.Deep

theorem xor_pow (b : UInt8) (t : Nat) (ht : t < 8) : bits .xor .u8 (b.toNat : Int) ((2 : Int) ^ t % 256) = ((b ^^^ UInt8.ofNat (2 ^ t)).toNat : Int) := by
  have h2 : 2 ^ t < 256 := Nat.lt_of_lt_of_le (Nat.pow_lt_pow_right (by omega) ht) (by decide)
  have e : ((2 : Int) ^ t % 256) = ((2 ^ t : Nat) : Int) := by
    have : ((2 : Int) ^ t) = ((2 ^ t : Nat) : Int) := by simp
    rw [this]
    generalize 2 ^ t = p at *
    omega
  rw [e, u8_xor_nat _ _ b.toNat_lt h2, UInt8.toNat_xor, UInt8.toNat_ofNat_of_lt' h2]
theorem xor_wrap (b : UInt8) (t : Nat) (ht : t < 8) : bits .xor .u8 (b.toNat : Int) (IntKind.u8.wrap ((2 : Int) ^ t)) = ((b ^^^ UInt8.ofNat (2 ^ t)).toNat : Int) := by
  rw [IntKind.wrap_u8]
  exact xor_pow b t ht
theorem code_flip (l : List UInt8) (j : Nat) (h : reg l = K) (h2 : 2 ≤ l.length) (hj : j < 8 * l.length) : code (flip l j) = 3 := by
  have hne : reg (flip l j) ≠ K := by
    intro e
    unfold reg at e h
    rw [regx_flip l _ j hj] at e
    rw [h] at e
    have e2 : turns (8 * l.length - j) 1#16 = 0#16 := by
      have h3 : K ^^^ (K ^^^ turns (8 * l.length - j) 1#16) = K ^^^ K := by rw [e]
      rw [← BitVec.xor_assoc] at h3
      simpa using h3
    exact absurd (turns_ne _ e2) (by decide)
  unfold code
  rw [flip_length, if_neg (by omega), if_neg hne]
theorem decIAll_flip (l : List UInt8) (j : Nat) (h : reg l = K) (h2 : 2 ≤ l.length) (hj : j < 8 * l.length) : decIAll (flip l j) = ([], 3) := by
  unfold decIAll
  rw [code_flip l j h h2 hj, if_neg (by decide)]
theorem Rd.take {w : World} {A : Option Addr} {l : List UInt8} (h : Rd w A (bys l)) (m : Nat) : Rd w A (bys (l.take m)) := by
  refine ⟨by have := h.1; rw [bys_length] at this ⊢; rw [List.length_take]; omega, fun j hj => ?_⟩
  rw [bys_length, List.length_take] at hj
  obtain ⟨a, e, hc⟩ := h.2 j (by rw [bys_length]; omega)
  refine ⟨a, e, ?_⟩
  rw [hc, bys_getD _ (by omega), bys_getD _ (by rw [List.length_take]; omega)]
  simp [List.getD_eq_getElem?_getD, show j < m by omega]
set_option maxRecDepth 20000 in
set_option maxHeartbeats 4000000 in
theorem imageTurned_any {A B : Option Addr} {n0 c d : Nat} {more : List UInt8} {w : World} (at_ cut : Int) (hat : 0 ≤ at_ ∧ at_ < 65536) (hcut : 0 ≤ cut ∧ cut < 256) (hR : InL w A n0) (hM : Rd w B (bys more)) (hB : B = none → d = 0) :
    Calls Try.prog 4 #[.slice A n0 c, .int .u16 at_, .int .u8 cut, .slice B more.length d] w fun e w' => e = .returned (.bool true) ∧ Fr No w w' := by
  have HR := Lib.hid hR
  have HM := Lib.hid hM
  have HB := Lib.hid hB
  clear hR hM hB
  go_enter Try.func4, Try.ntmps4
  go_wp2_with fail
  refine (empty_law _).mono ?_
  rintro e w1 ⟨rfl, F1⟩
  by_cases h0 : 20 < n0
  · go_wp2_with fail
    refine (empty_law _).mono ?_
    rintro e w2 ⟨rfl, F2⟩
    go_wp2
    go_ret
    exact ⟨rfl, F1.trans F2 (fun _ k => k.elim)⟩
  by_cases h20 : 20 < more.length
  · go_wp2_with fail
    refine (empty_law _).mono ?_
    rintro e w2 ⟨rfl, F2⟩
    go_wp2
    go_ret
    exact ⟨rfl, F1.trans F2 (fun _ k => k.elim)⟩
  · have HO := Lib.hid (of_any (c := c) (HR.out.no F1) (by omega))
    have HG1 := Lib.hid F1
    clear F1
    go_wp2_with fail
    refine HO.out.mono ?_
    rintro e w2 ⟨v1, v2, M0, rfl, ⟨hM0, hp0⟩, R2, F2⟩
    obtain ⟨A2, c2, e2, _, _, _, _⟩ := R2.own.shape
    subst e2
    have HE := Lib.hid (refEncode_any (c := c2) R2 hp0 (by omega))
    have HG2 := Lib.hid (HG1.out.trans F2 (fun _ k => k.elim))
    clear R2 F2 HO hM0 hp0 HG1
    go_wp2_with fail
    refine HE.out.mono ?_
    rintro e w3 ⟨v3, l3, rfl, O3, hl1, hl2, _, F3⟩
    obtain ⟨P, hP⟩ : ∃ P, closed l3 = P := ⟨_, rfl⟩
    have hPl : P.length = l3.length + 2 := by rw [← hP, closed_length]
    have hPK : reg P = Go.Proofs.Ythimhjdanmejmaa.K := by rw [← hP]; exact reg_closed _
    rw [hP] at O3
    obtain ⟨n, hn⟩ : ∃ n, P.length = n := ⟨_, rfl⟩
    have hn7 : 3 ≤ n ∧ n ≤ 202 := by omega
    have HN := Lib.hid hn
    have HPK := Lib.hid hPK
    obtain ⟨Q3, c3, rfl, hQ3, _, R3⟩ := O3.shape2
    rw [bys_length, hn]
    have HJ := Lib.hid (join_any (c := c3) (B := none) (d := 0) (m := []) R3 (Rd.nil _ _) hQ3 (fun _ => rfl) (by simp; omega))
    rw [hn, List.append_nil] at HJ
    have HG3 := Lib.hid (HG2.out.trans F3 (fun _ k => k.elim))
    clear O3 R3 F3 HE HG2 hn hQ3 hP hPl hPK hl1 hl2
    go_wp2_with fail
    refine HJ.out.mono ?_
    rintro e w4 ⟨v4, rfl, O4, N4, F4⟩
    obtain ⟨q, cc, hv, hcc, hcm, hown, hqw, hfz, hcl, hset⟩ := O4.form (by rw [bys_length, HN.out]; omega)
    rw [bys_length, HN.out] at hv hcc
    subst hv
    have hqn := N4.out q rfl
    have HG4 := Lib.hid (HG3.out.trans F4 (fun _ k => k.elim))
    have hqw0 : Hid (w.heap.size ≤ q) := by show w.heap.size ≤ q; exact Nat.le_trans HG3.out.size hqn
    obtain ⟨k, hk⟩ := Int.eq_ofNat_of_zero_le (show 0 ≤ at_ % ((8 * n : Nat) : Int) from Int.emod_nonneg _ (by omega))
    have hkn : k < 8 * n := by
      have := Int.emod_lt_of_pos at_ (show 0 < ((8 * n : Nat) : Int) by omega)
      omega
    obtain ⟨D, hD⟩ : ∃ D, k / 8 = D := ⟨_, rfl⟩
    obtain ⟨t, ht⟩ : ∃ t, k % 8 = t := ⟨_, rfl⟩
    have hDn : D < n := by omega
    have ht8 : t < 8 := by omega
    have i0 : IntKind.i64.wrap at_ = at_ := by rw [IntKind.wrap_i64]; omega
    have i1 : IntKind.i64.wrap (8 * (n : Int)) = ((8 * n : Nat) : Int) := by rw [IntKind.wrap_i64]; omega
    have i2 : at_.tmod ((8 * n : Nat) : Int) = (k : Int) := by rw [Int.tmod_eq_emod_of_nonneg hat.1]; exact hk
    have i3 : ¬ ((8 * n : Nat) : Int) = 0 := by omega
    have i4 : IntKind.i64.wrap (k : Int) = (k : Int) := by rw [IntKind.wrap_i64]; omega
    have j1 : (k : Int).tdiv 8 = (D : Int) := by rw [Int.tdiv_eq_ediv_of_nonneg (by omega)]; omega
    have j2 : (k : Int).tmod 8 = (t : Int) := by rw [Int.tmod_eq_emod_of_nonneg (by omega)]; omega
    have j3 : IntKind.i64.wrap (D : Int) = (D : Int) := by rw [IntKind.wrap_i64]; omega
    have j4 : IntKind.i64.wrap (t : Int) = (t : Int) := by rw [IntKind.wrap_i64]; omega
    have j5 : (0 : Int) ≤ (D : Int) := by omega
    have j6 : (D : Int) < (n : Int) := by omega
    have j7 : (0 : Int) ≤ (t : Int) := by omega
    obtain ⟨N8, hN8⟩ : ∃ N8, ((8 * n : Nat) : Int) = N8 := ⟨_, rfl⟩
    rw [hN8] at i1 i2 i3
    obtain ⟨y, hy⟩ : ∃ y, P.getD D 0 = y := ⟨_, rfl⟩
    have q1 := hcl D (by rw [bys_length, HN.out]; exact hDn)
    rw [bys_getD _ (by rw [HN.out]; exact hDn), hy] at q1
    have q2 := hfz D
    have hf : Hid (flip P k = P.set D (y ^^^ UInt8.ofNat (2 ^ t))) := by show flip P k = _; unfold flip; rw [hD, ht, hy]
    have hkn2 := Lib.hid hkn
    have HS := Lib.hid (hset D (.int .u8 ((y ^^^ UInt8.ofNat (2 ^ t)).toNat : Int)) (by rw [bys_length, HN.out]; exact hDn))
    have T8 := Lib.hid ht8
    clear O4 N4 F4 HJ hset hcl hfz hown hqw hqn hk hD ht hy hN8 hkn HG3
    go_upto_region 6 with (fail)
    go_still_tail 10, (by kernel_rfl)
    go_upto_region 7 with (fail)
    rw [xor_wrap y t T8.out, xor_pow y t T8.out]
    have fs : Fr (fun i => i = q) w4 (w4.setCell ⟨q, D, none⟩ (.int .u8 ((y ^^^ UInt8.ofNat (2 ^ t)).toNat : Int))).drew := ((Fr.refl (fun i => i = q) w4).setCell (p := ⟨q, D, none⟩) (.inl rfl) _).drew
    have O5 : Own (w4.setCell ⟨q, D, none⟩ (.int .u8 ((y ^^^ UInt8.ofNat (2 ^ t)).toNat : Int))).drew 5 (.slice (some ⟨q, 0, none⟩) n cc) (bys (flip P k)) := by
      have := HS.out
      rw [bys_set] at this
      rw [hf.out]; exact this
    have HG5 := Lib.hid (HG4.out.trans fs (fun i hi => .inr (by rw [show i = q from hi]; exact hqw0.out)))
    obtain ⟨w5, hw5⟩ : ∃ w5, (w4.setCell ⟨q, D, none⟩ (.int .u8 ((y ^^^ UInt8.ofNat (2 ^ t)).toNat : Int))).drew = w5 := ⟨_, rfl⟩
    rw [hw5] at O5 HG5 ⊢
    have R5 := O5.rd.1
    obtain ⟨X, hX⟩ : ∃ X, flip P k = X := ⟨_, rfl⟩
    have hXn : X.length = n := by rw [← hX, flip_length]; exact HN.out
    have hXd : decIAll X = ([], 3) := by rw [← hX]; exact decIAll_flip P k HPK.out (by rw [HN.out]; omega) (by rw [HN.out]; exact hkn2.out)
    rw [hX] at R5
    have HD := Lib.hid (decode_any (c := cc) R5 (by rw [hXn]; exact hcc) (by omega))
    rw [hXd, hXn] at HD
    have HR5 := Lib.hid R5
    have HXN := Lib.hid hXn
    clear fs O5 hw5 R5 hX hXn hXd HS hf q1 q2 HG4 HPK HN i0 i1 i2 i3 i4 j1 j2 j3 j4 j5 j6 j7
    go_wp2_with fail
    refine HD.out.mono ?_
    rintro e w6 ⟨v6, M6, rfl, _, _, F6⟩
    have HG6 := Lib.hid (HG5.out.trans F6 (fun _ k => k.elim))
    have HR6 := Lib.hid (HR5.out.no F6)
    obtain ⟨n2, rfl⟩ : ∃ n2, n = n2 + 2 := ⟨n - 2, by omega⟩
    have i1 : IntKind.i64.wrap (((n2 + 2 : Nat) : Int) - 2) = (n2 : Int) := by rw [IntKind.wrap_i64]; omega
    have i2 : (0 : Int) ≤ (n2 : Int) := by omega
    have i3 : (n2 : Int) ≤ (cc : Int) := by omega
    have i4 : IntKind.i64.wrap cut = cut := by rw [IntKind.wrap_i64]; omega
    have i5 : IntKind.i64.wrap ((n2 : Int) + 1) = ((n2 + 1 : Nat) : Int) := by rw [IntKind.wrap_i64]; omega
    clear F6 HD
    go_upto_if 65 with (fail)
    obtain ⟨wx, rfl⟩ : ∃ wx, wx = w6 := ⟨_, rfl⟩
    go_cut [15] (fun s wc => (∃ M : Nat, M ≤ n2 ∧ s = .int .i64 (M : Int)) ∧ wc = wx)
    case first =>
      obtain ⟨r, hr⟩ := Int.eq_ofNat_of_zero_le (show 0 ≤ cut % ((n2 + 1 : Nat) : Int) from Int.emod_nonneg _ (by omega))
      have hrn : r ≤ n2 := by
        have := Int.emod_lt_of_pos cut (show 0 < ((n2 + 1 : Nat) : Int) by omega)
        omega
      by_cases h1 : cut % 2 = 1
      · have e1 : cut.tmod 2 = 1 := by rw [Int.tmod_eq_emod_of_nonneg hcut.1]; exact h1
        have e2 : cut.tmod ((n2 + 1 : Nat) : Int) = (r : Int) := by rw [Int.tmod_eq_emod_of_nonneg hcut.1]; exact hr
        have e3 : ¬ ((n2 + 1 : Nat) : Int) = 0 := by omega
        have e4 : IntKind.i64.wrap (r : Int) = (r : Int) := by rw [IntKind.wrap_i64]; omega
        have e5 : IntKind.i64.wrap ((n2 : Int) - (r : Int)) = ((n2 - r : Nat) : Int) := by rw [IntKind.wrap_i64]; omega
        obtain ⟨N1, hN1⟩ : ∃ N1, ((n2 + 1 : Nat) : Int) = N1 := ⟨_, rfl⟩
        rw [hN1] at i5 e2 e3 hr
        clear hN1
        go_wp2
        go_meet
        case rel => exact ⟨⟨n2 - r, by omega, rfl⟩, rfl⟩
      · have e1 : cut.tmod 2 = 0 := by rw [Int.tmod_eq_emod_of_nonneg hcut.1]; omega
        have h0 : cut % 2 = 0 := by omega
        clear hr h1
        go_wp2
        go_meet
        case rel => exact ⟨⟨n2, Nat.le_refl _, rfl⟩, rfl⟩
    case rest =>
      obtain ⟨⟨M, hM, rfl⟩, rfl⟩ := hcut
      have RT := HR6.out.take M
      have hTn : (X.take M).length = M := by rw [List.length_take, HXN.out]; omega
      have HC := Lib.hid (refClose_any (c := cc) RT (fun h => by cases h) (by omega))
      rw [hTn] at HC
      have HRT := Lib.hid RT
      have HTN := Lib.hid hTn
      have m1 : (0 : Int) ≤ (M : Int) := by omega
      have m2 : (M : Int) ≤ (cc : Int) := by omega
      have m3 : (M : Int) ≤ (n2 : Int) := by omega
      clear RT hTn
      go_wp2_with fail
      refine HC.out.mono ?_
      rintro e w7 ⟨v7, rfl, O7, _, F7⟩
      obtain ⟨Q7, c7, rfl, _, hc7, R7⟩ := O7.shape2
      rw [bys_length] at hc7 ⊢
      have HRD := Lib.hid (reads_any (c := c7) R7 hc7 (by rw [closed_length, HTN.out]; omega))
      have HF7 := Lib.hid F7
      clear O7 R7 F7 HC
      go_wp2_with fail
      refine HRD.out.mono ?_
      rintro e w8 ⟨rfl, F8⟩
      have F78 := HF7.out.trans F8 (fun _ k => k.elim)
      have HG8 := HG6.out.trans F78 (fun _ k => k.elim)
      have HJ := Lib.hid (join_any (c := cc) (d := d) (HRT.out.no F78) (HM.out.no HG8) (fun h => by cases h) HB.out (by rw [HTN.out]; omega))
      rw [HTN.out] at HJ
      have hYl : (X.take M ++ more).length ≤ 300 := by rw [List.length_append, HTN.out]; omega
      obtain ⟨Y, hY⟩ : ∃ Y, X.take M ++ more = Y := ⟨_, rfl⟩
      rw [hY] at HJ hYl
      clear hY
      have HHG8 := Lib.hid HG8
      clear F78 HG8 F8 HRD HF7
      go_wp2_with fail
      refine HJ.out.mono ?_
      rintro e w9 ⟨v9, rfl, O9, _, F9⟩
      obtain ⟨Q9, c9, rfl, hQ9, hc9, R9⟩ := O9.shape2
      rw [bys_length]
      have HC9 := Lib.hid (refClose_any (c := c9) R9 hQ9 (by omega))
      have HG9 := Lib.hid (HHG8.out.trans F9 (fun _ k => k.elim))
      clear O9 R9 F9 HJ hQ9
      go_wp2_with fail
      refine HC9.out.mono ?_
      rintro e w10 ⟨v10, rfl, O10, _, F10⟩
      obtain ⟨Q10, c10, rfl, _, hc10, R10⟩ := O10.shape2
      rw [bys_length] at hc10 ⊢
      have HRD := Lib.hid (reads_any (c := c10) R10 hc10 (by rw [closed_length]; omega))
      have HG10 := Lib.hid (HG9.out.trans F10 (fun _ k => k.elim))
      clear O10 R10 F10 HC9
      go_wp2_with fail
      refine HRD.out.mono ?_
      rintro e w11 ⟨rfl, F11⟩
      go_wp2
      go_ret
      exact ⟨rfl, HG10.out.trans F11 (fun _ k => k.elim)⟩

/-- Locks that came in. -/
theorem open_lks {H : Type} {enc : TypeId × Value → H} {w : World} {A : Option Addr} {len cap : Nat} {d : DataW H} {ps : List MemPlace} (h : DataW.Trod enc Try.prog w 0 (fun _ => true) true 26 (.slice A len cap) d ps) : InL w A len :=
  (open_locks Try.underlying26 Try.underlying47 (by kernel_rfl) (by kernel_rfl) Try.underlying5 Try.underlying5 Try.underlying4 Try.underlying22 Try.underlying5 (by kernel_rfl) h).1
end Go.Proofs.Ythimhjdanmejmaa
