import Derived.Test.YtfnlimcgoeknjaaMakeG
import Derived.Test.YtfnlimcgoeknjaaRefT
import Derived.Test.YtfnlimcgoeknjaaJoin
import Derived.Deep.DeepCutAuto
namespace Go.Proofs.Ytfnlimcgoeknjaa
open Go.RowKit Go Fl

/-! ### One byte that is another one -/
theorem b16_xor (a b : UInt8) : b16 (a ^^^ b) = b16 a ^^^ b16 b := by
  unfold b16
  rw [UInt8.toNat_xor]
  apply BitVec.eq_of_toNat_eq
  have ha := a.toNat_lt
  have hb := b.toNat_lt
  have hx : a.toNat ^^^ b.toNat < 2 ^ 8 := Nat.xor_lt_two_pow (by omega) (by omega)
  rw [BitVec.toNat_xor, BitVec.toNat_ofNat, BitVec.toNat_ofNat, BitVec.toNat_ofNat, Nat.mod_eq_of_lt (by omega), Nat.mod_eq_of_lt (by omega), Nat.mod_eq_of_lt (by omega)]
theorem regx_byte : ∀ (l : List UInt8) (s : BitVec 16) (D : Nat) (t : UInt8), D < l.length → regx s (l.set D (l.getD D 0 ^^^ t)) = regx s l ^^^ turns (8 * (l.length - D)) (b16 t)
  | [], _, _, _, h => by simp at h
  | b :: l, s, 0, t, _ => by
    show regx (feed s (b ^^^ t)) l = regx (feed s b) l ^^^ _
    have e : feed s (b ^^^ t) = feed s b ^^^ turns 8 (b16 t) := by
      unfold feed
      rw [b16_xor, ← BitVec.xor_assoc, turns_xor]
    rw [e, regx_xor, ← turns_add]
    congr 2
    simp
    omega
  | b :: l, s, D + 1, t, h => by
    show regx (feed s b) (l.set D (l.getD D 0 ^^^ t)) = regx (feed s b) l ^^^ _
    rw [regx_byte l (feed s b) D t (by simpa using h)]
    congr 2
    simp
theorem b16_ne {t : UInt8} (h : t ≠ 0) : b16 t ≠ 0#16 := fun e => h (by
  have := congrArg BitVec.toNat e
  unfold b16 at this
  rw [BitVec.toNat_ofNat] at this
  have ht := t.toNat_lt
  apply UInt8.toNat.inj
  simp at this
  have h0 : t.toNat = 0 := by omega
  rw [h0]; rfl)
theorem code_byte (l : List UInt8) (D : Nat) (t : UInt8) (h : reg l = K) (h2 : 2 ≤ l.length) (hD : D < l.length) : code (l.set D (l.getD D 0 ^^^ t)) = if t = 0 then 0 else 3 := by
  have e : reg (l.set D (l.getD D 0 ^^^ t)) = K ^^^ turns (8 * (l.length - D)) (b16 t) := by
    unfold reg at h ⊢
    rw [regx_byte l _ D t hD, h]
  unfold code
  rw [List.length_set, if_neg (by omega), e]
  by_cases ht : t = 0
  · subst ht
    rw [if_pos rfl, show b16 0 = 0#16 from rfl, turns_zero, if_pos (by simp)]
  · rw [if_neg ht, if_neg]
    intro e2
    have e3 : turns (8 * (l.length - D)) (b16 t) = 0#16 := by
      have h3 : K ^^^ (K ^^^ turns (8 * (l.length - D)) (b16 t)) = K ^^^ K := by rw [e2]
      rw [← BitVec.xor_assoc] at h3
      simpa using h3
    exact b16_ne ht (turns_ne _ e3)
theorem decAL_byte (l : List UInt8) (D : Nat) (t : UInt8) (h : reg l = K) (h2 : 2 ≤ l.length) (hD : D < l.length) : ((decAL (l.set D (l.getD D 0 ^^^ t))).2 = 3) ↔ t ≠ 0 := by
  have hc := code_byte l D t h h2 hD
  unfold decAL
  by_cases ht : t = 0
  · rw [if_pos ht] at hc
    rw [if_pos hc]
    simp only [ht, ne_eq, not_true_eq_false, iff_false]
    split
    · unfold decL
      split
      · simp
      · split <;> simp
    · simp
  · rw [if_neg ht] at hc
    rw [if_neg (by rw [hc]; decide), hc]
    simp [ht]
theorem byte_xor (y t : UInt8) : bits .xor .u8 (y.toNat : Int) (t.toNat : Int) = ((y ^^^ t).toNat : Int) := by
  rw [u8_xor_nat _ _ y.toNat_lt t.toNat_lt, UInt8.toNat_xor]

set_option maxRecDepth 20000 in
set_option maxHeartbeats 8000000 in
theorem layoutTurned_any {f l s m wt c st j cc : Nat} {A B : Option Addr} {d : Nat} {R : BS} {more : List UInt8} {w : World} (at_ cut : Int) (tb : UInt8) (fresh : Bool) (hat : 0 ≤ at_ ∧ at_ < 65536) (hcut : 0 ≤ cut ∧ cut < 256) (hb : f < 256 ∧ l < 256 ∧ s < 256 ∧ m < 65536 ∧ wt < 65536 ∧ c < 256 ∧ st < 256 ∧ j < 256) (hR : Bss w A R) (hM : Rd w B (bys more)) (hB : B = none → d = 0) :
    Calls Try.prog 4 #[.agg (dcs f l s m wt c st j A R.length cc), .int .u16 at_, .int .u8 (tb.toNat : Int), .int .u8 cut, .slice B more.length d, .bool fresh] w fun e w' => e = .returned (.bool true) ∧ Fr No w w' := by
  unfold dcs
  have F0 := (Fr.refl No w).alloc (.cells #[.int .u8 (f : Int), .int .u8 (l : Int), .int .u8 (s : Int), .int .u16 (m : Int), .int .u16 (wt : Int), .int .u8 (c : Int), .int .u8 (st : Int), .int .u8 (j : Int), .slice A R.length cc] 30)
  have HB0 := Lib.hid (blk_new w (.cells #[.int .u8 (f : Int), .int .u8 (l : Int), .int .u8 (s : Int), .int .u16 (m : Int), .int .u16 (wt : Int), .int .u8 (c : Int), .int .u8 (st : Int), .int .u8 (j : Int), .slice A R.length cc] 30))
  have HF0 := Lib.hid F0
  have HR := Lib.hid hR
  have HM := Lib.hid hM
  have HB := Lib.hid hB
  clear hR hM hB F0
  go_enter Try.func4, Try.ntmps4
  go_wp2_with fail
  refine (bare_law _).mono ?_
  rintro e w1 ⟨rfl, F1⟩
  have G1 := HF0.out.trans F1 (fun _ k => k.elim)
  have HB1 := Lib.hid (F1.heap HB0.out (fun k => k))
  obtain ⟨s0, s1, s2, s3, s4, s5, s6, s7, s8⟩ := nines HB1.out
  have HSM := Lib.hid (rsmall_any (f := f) (l := l) (s := s) (m := m) (wt := wt) (c := c) (st := st) (j := j) (cc := cc) (HR.out.no G1))
  unfold dcs at HSM
  have HG1 := Lib.hid G1
  clear HB0 HF0 F1 G1
  by_cases hgo : small R = true ∧ more.length ≤ 40
  case neg =>
    obtain ⟨sm, hsm⟩ : ∃ b, small R = b := ⟨_, rfl⟩
    rw [hsm] at HSM hgo
    have hcase : sm = false ∨ (sm = true ∧ (40 : Int) < (more.length : Int)) := by
      cases sm with
      | false => exact .inl rfl
      | true => exact .inr ⟨rfl, by have : ¬ more.length ≤ 40 := fun h => hgo ⟨rfl, h⟩
                                    omega⟩
    clear hgo hsm
    rcases hcase with rfl | ⟨rfl, h40⟩
    all_goals
      go_wp2_with fail
      refine HSM.out.mono ?_
      rintro e w2 ⟨rfl, F2⟩
      go_wp2_with fail
      refine (bare_law _).mono ?_
      rintro e w3 ⟨rfl, F3⟩
      go_wp2
      go_ret
      exact ⟨rfl, (HG1.out.trans F2 (fun _ k => k.elim)).trans F3 (fun _ k => k.elim)⟩
  case pos =>
    obtain ⟨hs, h40⟩ := hgo
    rw [hs] at HSM
    have HS := Lib.hid hs
    have h40' : ¬ (40 : Int) < (more.length : Int) := by omega
    have H40 := Lib.hid h40
    clear hs h40
    go_wp2_with fail
    refine HSM.out.mono ?_
    rintro e w2 ⟨rfl, F2⟩
    have HG2 := Lib.hid (HG1.out.trans F2 (fun _ k => k.elim))
    have HRO := Lib.hid (rrough_any (f := f) (l := l) (s := s) (m := m) (wt := wt) (c := c) (st := st) (j := j) (cc := cc) hb (HR.out.no HG2.out) HS.out)
    unfold dcs at HRO
    have hgd := goodL_mk hb HS.out
    have hbl := bits_mk (f := f) (l := l) (s := s) (m := m) (wt := wt) (c := c) (st := st) (j := j) HS.out
    obtain ⟨L, hL⟩ : ∃ L, mkL f l s m wt c st j (roR R) = L := ⟨_, rfl⟩
    rw [hL] at HRO hgd hbl
    have HGD := Lib.hid hgd
    have HBL := Lib.hid hbl
    have HB2 := Lib.hid (F2.heap HB1.out (fun k => k))
    clear s0 s1 s2 s3 s4 s5 s6 s7 s8 hgd hbl hL
    obtain ⟨s0, s1, s2, s3, s4, s5, s6, s7, s8⟩ := nines HB2.out
    clear F2 HSM HB1 HG1
    go_wp2_with fail
    refine HRO.out.mono ?_
    rintro e w3 ⟨C, rfl, VW, F3⟩
    have HE := Lib.hid (rlencode_any VW.u HGD.out.sized (by have := HBL.out; omega))
    have HG3 := Lib.hid (HG2.out.trans F3 (fun _ k => k.elim))
    obtain ⟨An, cn, As, cs, Ap, cp, Aq, cq, Ar, cr, Mp, Mr, rfl, _⟩ := VW
    clear s0 s1 s2 s3 s4 s5 s6 s7 s8 F3 HRO HG2 HB2 h40'
    unfold lcs at HE ⊢
    go_wp2_with fail
    refine HE.out.mono ?_
    rintro e w4 ⟨v4, rfl, O4, _, F4⟩
    obtain ⟨Pb, hP⟩ : ∃ P, closed (pack (layBits L)) = P := ⟨_, rfl⟩
    have hPl : 3 ≤ Pb.length ∧ Pb.length ≤ 2000 := by
      have := HBL.out
      rw [← hP, closed_length, pack_length]
      have h2 : 16 ≤ (layBits L).length := by rw [layBits_rest]; simp [putBits_length]; omega
      omega
    have hPK : reg Pb = K := by rw [← hP]; exact reg_closed _
    rw [hP] at O4
    obtain ⟨n, hn⟩ : ∃ n, Pb.length = n := ⟨_, rfl⟩
    rw [hn] at hPl
    have HN := Lib.hid hn
    have HPK := Lib.hid hPK
    obtain ⟨Q4, c4, rfl, hQ4, _, R4⟩ := O4.shape2
    rw [bys_length, hn]
    have HJ := Lib.hid (join_any (c := c4) (B := none) (d := 0) (m := []) R4 (Rd.nil _ _) hQ4 (fun _ => rfl) (by simp; omega))
    rw [hn, List.append_nil] at HJ
    have HG4 := Lib.hid (HG3.out.trans F4 (fun _ k => k.elim))
    clear O4 R4 F4 HE HG3 hn hQ4 hP hPK
    go_wp2_with fail
    refine HJ.out.mono ?_
    rintro e w5 ⟨v5, rfl, O5, N5, F5⟩
    obtain ⟨q, c5, hv, hcc, hcm, hown, hqw, hfz, hcl, hset⟩ := O5.form (by rw [bys_length, HN.out]; omega)
    rw [bys_length, HN.out] at hv hcc
    subst hv
    have hqn := N5.out q rfl
    have HG5 := Lib.hid (HG4.out.trans F5 (fun _ k => k.elim))
    have hqw0 : Hid (w.heap.size ≤ q) := by show w.heap.size ≤ q; exact Nat.le_trans HG4.out.size hqn
    obtain ⟨n2, hn2⟩ : ∃ n2, n = n2 + 2 := ⟨n - 2, by omega⟩
    subst hn2
    obtain ⟨D, hD⟩ := Int.eq_ofNat_of_zero_le (show 0 ≤ at_ % (n2 : Int) from Int.emod_nonneg _ (by omega))
    have hDn : D < n2 := by
      have := Int.emod_lt_of_pos at_ (show 0 < (n2 : Int) by omega)
      omega
    obtain ⟨n, hn⟩ : ∃ n, n2 + 2 = n := ⟨_, rfl⟩
    rw [hn] at hPl HN hcc ⊢
    have i0 : IntKind.i64.wrap at_ = at_ := by rw [IntKind.wrap_i64]; omega
    have i1 : IntKind.i64.wrap ((n : Int) - 2) = (n2 : Int) := by rw [IntKind.wrap_i64]; omega
    have i1' : (n : Int) - 2 = (n2 : Int) := by omega
    have i2 : at_.tmod (n2 : Int) = (D : Int) := by rw [Int.tmod_eq_emod_of_nonneg hat.1]; exact hD
    have i2' : at_ % (n2 : Int) = (D : Int) := hD
    have i3 : ¬ (n2 : Int) = 0 := by omega
    have i4 : IntKind.i64.wrap (D : Int) = (D : Int) := by rw [IntKind.wrap_i64]; omega
    have j5 : (0 : Int) ≤ (D : Int) := by omega
    have j6 : (D : Int) < (n : Int) := by omega
    obtain ⟨y, hy⟩ : ∃ y, Pb.getD D 0 = y := ⟨_, rfl⟩
    have q1 := hcl D (by rw [bys_length, HN.out]; omega)
    rw [bys_getD _ (by rw [HN.out]; omega), hy] at q1
    have q2 := hfz D
    have HY := Lib.hid hy
    have HS5 := Lib.hid (hset D (.int .u8 ((y ^^^ tb).toNat : Int)) (by rw [bys_length, HN.out]; omega))
    have HDn := Lib.hid hDn
    have Hn := Lib.hid hn
    clear O5 N5 F5 HJ hset hcl hfz hown hqw hqn hD hy hDn hn HG4
    go_upto_region 6 with (fail)
    rw [byte_xor y tb]
    have fs : Fr (fun i => i = q) w5 (w5.setCell ⟨q, D, none⟩ (.int .u8 ((y ^^^ tb).toNat : Int))) := (Fr.refl (fun i => i = q) w5).setCell (p := ⟨q, D, none⟩) (.inl rfl) _
    have O6 : Own (w5.setCell ⟨q, D, none⟩ (.int .u8 ((y ^^^ tb).toNat : Int))) 5 (.slice (some ⟨q, 0, none⟩) n c5) (bys (Pb.set D (y ^^^ tb))) := by
      have := HS5.out
      rw [bys_set, Hn.out] at this
      exact this
    have HG6 := Lib.hid (HG5.out.trans fs (fun i hi => .inr (by rw [show i = q from hi]; exact hqw0.out)))
    obtain ⟨w6, hw6⟩ : ∃ w6, w5.setCell ⟨q, D, none⟩ (.int .u8 ((y ^^^ tb).toNat : Int)) = w6 := ⟨_, rfl⟩
    rw [hw6] at O6 HG6 ⊢
    have R6 := O6.rd.1
    obtain ⟨X, hX⟩ : ∃ X, Pb.set D (y ^^^ tb) = X := ⟨_, rfl⟩
    have hXn : X.length = n := by rw [← hX, List.length_set]; exact HN.out
    have hX3 : (decAL X).2 = 3 ↔ tb ≠ 0 := by rw [← hX, ← HY.out]; exact decAL_byte Pb D tb HPK.out (by rw [HN.out]; omega) (by rw [HN.out]; have := HDn.out; have := Hn.out; omega)
    rw [hX] at R6
    have HR6 := Lib.hid R6
    have HXN := Lib.hid hXn
    have HX3 := Lib.hid hX3
    clear fs O6 hw6 R6 hX hXn hX3 HS5 q1 q2 HG5 HPK HN HY i0 i1 i1' i2 i2' i4 j5 j6
    have hn2b : n2 ≤ 2000 := by have := Hn.out; omega
    cases fresh with
    | false =>
      have HD := Lib.hid (ldecode_any HR6.out (by rw [HXN.out]; exact hcc) (by rw [HXN.out]; omega))
      rw [HXN.out] at HD
      obtain ⟨M, hM⟩ : ∃ M, (decAL X).1 = M := ⟨_, rfl⟩
      obtain ⟨kd, hkd⟩ : ∃ k, (decAL X).2 = k := ⟨_, rfl⟩
      rw [hM, hkd] at HD
      have hk3 : kd = 3 ↔ tb ≠ 0 := by rw [← hkd]; exact HX3.out
      clear hM hkd
      have hcase : (kd = 3 ∧ ¬ (tb.toNat : Int) = 0) ∨ (¬ kd = 3 ∧ (tb.toNat : Int) = 0) := by
        by_cases ht : tb = 0
        · right
          exact ⟨fun e => (hk3.1 e) ht, by rw [ht]; rfl⟩
        · left
          refine ⟨hk3.2 ht, fun e => ht ?_⟩
          apply UInt8.toNat.inj
          have : tb.toNat = 0 := by omega
          rw [this]; rfl
      have HCS := Lib.hid hcase
      clear hk3 hcase
      go_wp2_with fail
      refine HD.out.mono ?_
      rintro e w7 ⟨C7, rfl, V7, F7⟩
      obtain ⟨Bn, dn, Bs, ds, Bp, dp, Bq, dq, Br, dr, Np, Nr, rfl, _⟩ := V7
      obtain ⟨O, hO⟩ : ∃ O, Obj.cells (lcs Bn M.no.length dn Bs M.se.length ds Bp (List.length Np) dp Bq M.po.length dq Br (List.length Nr) dr M.sp M.mu M.wa M.ca M.st) 38 = O := ⟨_, rfl⟩
      have HG7 := Lib.hid ((HG6.out.trans F7 (fun _ k => k.elim)).alloc O)
      have HRD := Lib.hid (reads_any ((HR6.out.no F7).no ((Fr.refl No w7).alloc O)) (by rw [HXN.out]; exact hcc) (by rw [HXN.out]; omega))
      rw [HXN.out] at HRD
      subst hO
      clear F7 HD HG6
      unfold lcs at HRD HG7 ⊢
      rcases HCS.out with ⟨rfl, ht⟩ | ⟨hk3, ht⟩
      all_goals
        go_wp2_with fail
        refine HRD.out.mono ?_
        rintro e w8 ⟨rfl, F8⟩
        go_wp2
        go_ret
        exact ⟨by simp <;> omega, HG7.out.trans F8 (fun _ k => k.elim)⟩
    | true =>
      go_upto_if 65 with (fail)
      go_cut [14] (fun s wc => (∃ M : Nat, M ≤ n2 ∧ s = .int .i64 (M : Int)) ∧ wc = w6)
      case first =>
        obtain ⟨r, hr⟩ := Int.eq_ofNat_of_zero_le (show 0 ≤ cut % (n2 : Int) from Int.emod_nonneg _ (by omega))
        have hrn : r < n2 := by
          have := Int.emod_lt_of_pos cut (show 0 < (n2 : Int) by omega)
          omega
        by_cases h1 : cut % 2 = 1
        · have e0 : IntKind.i64.wrap cut = cut := by rw [IntKind.wrap_i64]; omega
          have e1 : cut.tmod 2 = 1 := by rw [Int.tmod_eq_emod_of_nonneg hcut.1]; exact h1
          have e2 : cut.tmod (n2 : Int) = (r : Int) := by rw [Int.tmod_eq_emod_of_nonneg hcut.1]; exact hr
          have e4 : IntKind.i64.wrap (r : Int) = (r : Int) := by rw [IntKind.wrap_i64]; omega
          have e5 : IntKind.i64.wrap ((n2 : Int) - (r : Int)) = ((n2 - r : Nat) : Int) := by rw [IntKind.wrap_i64]; omega
          have e6 : (n2 : Int) - (r : Int) = ((n2 - r : Nat) : Int) := by omega
          obtain ⟨N1, hN1⟩ : ∃ N1, n2 - r = N1 := ⟨_, rfl⟩
          rw [hN1] at e5 e6
          have HN1 := Lib.hid hN1
          clear hN1
          go_wp2
          go_meet
          case rel => exact ⟨⟨N1, by have := HN1.out; omega, rfl⟩, rfl⟩
        · have e1 : cut.tmod 2 = 0 := by rw [Int.tmod_eq_emod_of_nonneg hcut.1]; omega
          have h0 : cut % 2 = 0 := by omega
          clear hr h1
          go_wp2
          go_meet
          case rel => exact ⟨⟨n2, Nat.le_refl _, rfl⟩, rfl⟩
      case rest =>
        obtain ⟨⟨M, hM, rfl⟩, rfl⟩ := hcut
        have RT := HR6.out.take M
        have hTn : (X.take M).length = M := by rw [List.length_take, HXN.out]; have := Hn.out; omega
        have m1 : (0 : Int) ≤ (M : Int) := by omega
        have hMc : M ≤ c5 := by have := Hn.out; omega
        have m2 : (M : Int) ≤ (c5 : Int) := by omega
        have HJ := Lib.hid (join_any (c := c5) (d := d) RT (HM.out.no HG6.out) (fun h => by cases h) HB.out (by rw [hTn]; have := H40.out; omega))
        rw [hTn] at HJ
        have hYl : (X.take M ++ more).length ≤ 3000 := by rw [List.length_append, hTn]; have := H40.out; have := Hn.out; omega
        obtain ⟨Y, hY⟩ : ∃ Y, X.take M ++ more = Y := ⟨_, rfl⟩
        rw [hY] at HJ hYl
        clear hY RT hTn hMc
        go_wp2_with fail
        refine HJ.out.mono ?_
        rintro e w9 ⟨v9, rfl, O9, _, F9⟩
        obtain ⟨Q9, c9, rfl, hQ9, hc9, R9⟩ := O9.shape2
        rw [bys_length]
        have HC9 := Lib.hid (refClose_any (c := c9) R9 hQ9 (by omega))
        have HG9 := Lib.hid (HG6.out.trans F9 (fun _ k => k.elim))
        clear O9 R9 F9 HJ hQ9
        go_wp2_with fail
        refine HC9.out.mono ?_
        rintro e w10 ⟨v10, rfl, O10, _, F10⟩
        obtain ⟨Q10, c10, rfl, _, hc10, R10⟩ := O10.shape2
        rw [bys_length] at hc10 ⊢
        have HRD := Lib.hid (reads_any (c := c10) R10 hc10 (by rw [closed_length]; omega))
        have HG10 := Lib.hid (HG9.out.trans F10 (fun _ k => k.elim))
        clear O10 R10 F10 HC9
        go_wp2_with fail
        refine HRD.out.mono ?_
        rintro e w11 ⟨rfl, F11⟩
        go_wp2
        go_ret
        exact ⟨rfl, HG10.out.trans F11 (fun _ k => k.elim)⟩
end Go.Proofs.Ytfnlimcgoeknjaa
