import Derived.Test.YtfkcpooljkpfpaaLayW
namespace Go.Proofs.Ytfkcpooljkpfpaa
open Go.RowKit Go

theorem bitAt_set (b : List Bool) (k : Nat) (x : Bool) (j : Nat) (hk : k < b.length) : bitAt (b.set k x) j = if j = k then x else bitAt b j := by
  unfold bitAt
  rw [List.getD_eq_getElem?_getD, List.getD_eq_getElem?_getD, List.getElem?_set]
  by_cases h : k = j
  · subst h; simp [hk]
  · rw [if_neg h, if_neg (fun e => h e.symm)]
theorem byteOf_set (b : List Bool) (k i : Nat) (hk : k < b.length) : byteOf (b.set k (!bitAt b k)) i = if i = k / 8 then byteOf b i ^^^ UInt8.ofNat (2 ^ (7 - k % 8)) else byteOf b i := by
  apply byte_ext
  intro j hj
  rw [byteOf_testBit, bitAt_set _ _ _ _ hk]
  by_cases hi : i = k / 8
  · rw [if_pos hi, UInt8.toNat_xor, Nat.testBit_xor, byteOf_testBit, pow_byte (by omega), Nat.testBit_two_pow]
    by_cases hjk : 8 * i + (7 - j) = k
    · have e : 7 - k % 8 = j := by omega
      simp [hj, hjk, e]
    · have e : ¬ 7 - k % 8 = j := by omega
      simp [hj, hjk, e]
  · rw [if_neg hi, byteOf_testBit, if_neg (by omega)]
theorem xor_ne (y : UInt8) {t : Nat} (ht : t < 8) : (y.toNat : Int) ≠ ((y ^^^ UInt8.ofNat (2 ^ t)).toNat : Int) := by
  intro h
  have h2 : y.toNat = (y ^^^ UInt8.ofNat (2 ^ t)).toNat := by omega
  have h3 := congrArg (fun n => n.testBit t) h2
  simp only [UInt8.toNat_xor, Nat.testBit_xor, pow_byte ht, Nat.testBit_two_pow] at h3
  simp at h3
theorem xor_bits (y : UInt8) {t : Nat} (ht : t < 8) : bits .xor .u8 (y.toNat : Int) ((y ^^^ UInt8.ofNat (2 ^ t)).toNat : Int) = ((2 ^ t : Nat) : Int) := by
  rw [u8_xor_nat _ _ y.toNat_lt (UInt8.toNat_lt _), UInt8.toNat_xor, pow_byte ht, ← Nat.xor_assoc, Nat.xor_self, Nat.zero_xor]

set_option maxRecDepth 20000 in
set_option maxHeartbeats 4000000 in
theorem bitsTurned_any {A : Option Addr} {cap : Nat} {l : Its} (at_ : Int) (w : World) (hat : 0 ≤ at_ ∧ at_ ≤ 65535) (hr : RdI w A l) (hok : itsOk l) :
    Calls Try.prog 3 #[.slice A l.length cap, .int .u16 at_] w fun e w' => e = .returned (.bool true) ∧ Fr No w w' := by
  have HR := Lib.hid hr
  have HOK := Lib.hid hok
  clear hr hok
  go_enter Try.func3, Try.ntmps3
  go_wp2_with fail
  refine (five_any _).mono ?_
  rintro e w1 ⟨rfl, F1⟩
  by_cases hl : 30 < l.length
  · go_wp2_with fail
    refine (five_any _).mono ?_
    rintro e w2 ⟨rfl, F2⟩
    go_wp2
    go_ret
    exact ⟨rfl, F1.trans F2 (fun _ k => k.elim)⟩
  · go_wp2_with fail
    refine (lay_any (HR.out.no F1) HOK.out (by omega)).mono ?_
    rintro e w2 ⟨g, v, B, d, rfl, W2, R2, N2, hg, F2⟩
    have hn64 := laid_len l
    obtain ⟨b, hbb⟩ : ∃ b, laid l = b := ⟨_, rfl⟩
    rw [hbb] at W2 R2 hn64 ⊢
    have G2 := F1.trans F2 (fun _ k => k.elim)
    clear F1 F2
    by_cases h0 : b.length = 0
    · have HLN := Lib.hid (len_any W2)
      have HBY := Lib.hid (wbytes_any W2 (by omega))
      obtain rfl := List.eq_nil_of_length_eq_zero h0
      clear W2 R2
      go_wp2_with fail
      refine HLN.out.mono ?_
      rintro e w3 ⟨rfl, rfl⟩
      go_wp2_with fail
      refine HBY.out.mono ?_
      rintro e w4 ⟨v4, rfl, O4, _, F4⟩
      obtain ⟨A4, c4, rfl, _, _, _⟩ := O4.shape
      go_wp2
      go_ret
      exact ⟨rfl, G2.trans F4 (fun _ k => k.elim)⟩
    · obtain ⟨n, hn⟩ : ∃ n, b.length = n := ⟨_, rfl⟩
      have hn0 : 0 < n := by omega
      have hnl : n ≤ 1920 := by omega
      obtain ⟨k, hk⟩ := Int.eq_ofNat_of_zero_le (show 0 ≤ at_ % (n : Int) from Int.emod_nonneg _ (by omega))
      have hkn : k < n := by
        have := Int.emod_lt_of_pos at_ (show 0 < (n : Int) by omega)
        omega
      have i1 : at_.tmod (n : Int) = (k : Int) := by rw [Int.tmod_eq_emod_of_nonneg hat.1]; exact hk
      have i2 : ¬ (n : Int) = 0 := by omega
      have i3 : IntKind.i64.wrap (k : Int) = (k : Int) := by rw [IntKind.wrap_i64]; omega
      have i4 : IntKind.i64.wrap at_ = at_ := by rw [IntKind.wrap_i64]; omega
      have HN := Lib.hid hn
      have HBB := Lib.hid hbb
      have HW2 := Lib.hid W2
      have HG2 := Lib.hid G2
      have HR2 := Lib.hid R2
      have HN2 := Lib.hid N2
      have hbl : Hid (b.length ≤ 1920 ∧ k < b.length ∧ w1.heap.size ≤ g) := by show b.length ≤ 1920 ∧ k < b.length ∧ w1.heap.size ≤ g; omega
      rw [hn]
      clear hk hbb W2 G2 R2 N2 hn64 h0 hl hn hg
      go_wp2_with (at_builtin; go_loud (refine own_extend rfl (.tmp 42) (.tmp 43) 27 4 (.bool false) 1 rfl Try.underlying27 infoBool rfl (by decide) (.slice none 0 0) [] (bls b) B n d rfl rfl ?hn ?hA ?hR (bls_one' b) (Own.nil _ _) ?hl ?_))
      case hn => rw [bls_length]; exact HN.out.symm
      case hA => exact HN2.out
      case hR => exact HR2.out
      case hl => have := hbl.out; rw [bls_length]; simp; omega
      intro v1 w3 o1 f1 a1
      have f1' : Fr No w2 w3 := f1.mono (fun i hi => by simp [Value.ownBlock] at hi)
      have b1 : ∀ q, v1.ownBlock = some q → w2.heap.size ≤ q := by
        intro q hq
        rcases a1 with e | ⟨b', e, hb'⟩
        · rw [e] at hq; simp [Value.ownBlock] at hq
        · rw [e] at hq; cases hq; exact hb'
      have o1' : Own w3 4 v1 (bls b) := by simpa using o1
      clear o1 f1 a1
      obtain ⟨q, cc, hv, _, _, hown, hqw, hfz, hcl, hset⟩ := o1'.form (by rw [bls_length]; have := hbl.out; omega)
      subst hv
      have hq2 := b1 q rfl
      have q1 := hcl k (by rw [bls_length]; exact hbl.out.2.1)
      have q2 := hfz k
      rw [bls_getD _ hbl.out.2.1] at q1
      obtain ⟨x, hx⟩ : ∃ x, b.getD k false = x := ⟨_, rfl⟩
      rw [hx] at q1
      have O4 := hset k (.bool (!x)) (by rw [bls_length]; exact hbl.out.2.1)
      obtain ⟨c, hc⟩ : ∃ c, b.set k (!bitAt b k) = c := ⟨_, rfl⟩
      have hcl2 : c.length = n := by rw [← hc, List.length_set]; exact HN.out
      have eset : (bls b).set k (.bool (!x)) = bls c := by rw [← hc]; unfold bls bitAt; rw [List.map_set, hx]
      rw [eset] at O4
      have HC := Lib.hid hc
      have HO4 := Lib.hid O4
      have HF4 := Lib.hid ((HG2.out.trans f1' (fun _ k => k.elim)).setCell (p := ⟨q, k, none⟩) (.inr (Nat.le_trans HG2.out.size hq2)) (.bool (!x)))
      have gq : g ≠ q := by have := blk_lt HW2.out.blk; omega
      have vq : ∀ j, v.ownBlock = some j → j ≠ q := fun j hj e => by have := HW2.out.own.lt hj; omega
      have fs : Fr (fun i => i = q) w3 (w3.setCell ⟨q, k, none⟩ (.bool (!x))) := (Fr.refl (fun i => i = q) w3).setCell (p := ⟨q, k, none⟩) (.inl rfl) _
      have HW4 := Lib.hid ((HW2.out.fr f1' (fun k => k) (fun _ _ k => k)).fr fs gq (fun j hj => vq j hj))
      have hcl3 := Lib.hid hcl2
      rw [bls_length, HN.out]
      clear O4 eset hx hset hcl hfz hown b1 o1' f1' hqw gq vq fs hc hq2 hcl2
      go_upto_region 10 with (fail)
      obtain ⟨w5, hw5⟩ : ∃ w5, w3.setCell ⟨q, k, none⟩ (.bool (!x)) = w5 := ⟨_, rfl⟩
      rw [hw5] at HO4 HF4 HW4 ⊢
      clear hw5 q1 q2
      go_wp2_with fail
      refine (wbytes_any HW4.out (by have := hbl.out; omega)).mono ?_
      rintro e w6 ⟨v6, rfl, O6, _, F6⟩
      obtain ⟨A1, c1, rfl, _, _, R1⟩ := O6.shape
      have HP := Lib.hid (refPack_any (c := cc) (HO4.out.fr F6 (fun _ _ k => k)).rd.1 (by have := hbl.out; rw [hcl3.out]; omega))
      rw [hcl3.out] at HP
      rw [bys_length]
      have HR1 := Lib.hid R1
      have HF6 := Lib.hid (HF4.out.trans F6 (fun _ k => k.elim))
      clear O6 F6 R1 HF4 HW4 HO4
      go_wp2_with fail
      refine HP.out.mono ?_
      rintro e w7 ⟨v7, rfl, O7, _, F7⟩
      obtain ⟨A2, c2, rfl, _, _, R2⟩ := O7.shape
      have HR1' := Lib.hid (HR1.out.no F7)
      have HR2' := Lib.hid R2
      have HF7 := Lib.hid (HF6.out.trans F7 (fun _ k => k.elim))
      obtain ⟨L, hL⟩ : ∃ L, (n + 7) / 8 = L := ⟨_, rfl⟩
      have hL1 : (pack b).length = L := by rw [pack_length, HN.out]; exact hL
      have hL2 : (pack c).length = L := by rw [pack_length, hcl3.out]; exact hL
      obtain ⟨D, hD⟩ : ∃ D, k / 8 = D := ⟨_, rfl⟩
      obtain ⟨t, ht⟩ : ∃ t, k % 8 = t := ⟨_, rfl⟩
      have hst : Hid (∀ i, byteOf c i = if i = D then byteOf b i ^^^ UInt8.ofNat (2 ^ (7 - t)) else byteOf b i) := by
        show ∀ i, _
        intro i
        rw [← HC.out, byteOf_set _ _ _ hbl.out.2.1, hD, ht]
      have j1 : (k : Int).tdiv 8 = (D : Int) := by rw [Int.tdiv_eq_ediv_of_nonneg (by omega)]; omega
      have j2 : (k : Int).tmod 8 = (t : Int) := by rw [Int.tmod_eq_emod_of_nonneg (by omega)]; omega
      have j3 : IntKind.i64.wrap (D : Int) = (D : Int) := by rw [IntKind.wrap_i64]; omega
      have j4 : IntKind.i64.wrap (t : Int) = (t : Int) := by rw [IntKind.wrap_i64]; omega
      have j5 : IntKind.i64.wrap (7 - (t : Int)) = 7 - (t : Int) := by rw [IntKind.wrap_i64]; omega
      have hDL : D < L := by omega
      have hLs : L ≤ 240 := by omega
      have ht8 : t < 8 := by omega
      have HL1 := Lib.hid hL1
      have HL2 := Lib.hid hL2
      rw [bys_length, hL1, hL2]
      clear O7 F7 R2 HR1 HF6 HP hL hL1 hL2 hD ht HC i1 i2 i4
      go_wp2
      go_loopg [11] L (fun gk i wr => ∃ j : Nat, j + gk = L ∧ i = .int .i64 (j : Int) ∧ Rd wr A1 (bys (pack b)) ∧ Rd wr A2 (bys (pack c)) ∧ Fr No w wr)
      case atStart => exact ⟨0, by omega, rfl, HR1'.out, HR2'.out, HF7.out⟩
      case round =>
        obtain ⟨j, hj, rfl, R1, R2, F8⟩ := hrel
        clear HR1' HR2' HF7
        by_cases hjL : j < L
        · obtain ⟨ad1, rfl, e1⟩ := R1.byte (show j < (pack b).length by rw [HL1.out]; exact hjL)
          obtain ⟨ad2, rfl, e2⟩ := R2.byte (show j < (pack c).length by rw [HL2.out]; exact hjL)
          rw [pack_getD] at e1 e2
          have hz := hst.out j
          obtain ⟨y, hy⟩ : ∃ y, byteOf b j = y := ⟨_, rfl⟩
          rw [hy] at e1 hz
          obtain ⟨z, hz2⟩ : ∃ z, byteOf c j = z := ⟨_, rfl⟩
          rw [hz2] at e2 hz
          have H1 := Lib.hid R1
          have H2 := Lib.hid R2
          have H8 := Lib.hid F8
          clear R1 R2 F8 hy hz2
          by_cases hjD : j = D
          · rw [if_pos hjD] at hz
            have hne := xor_ne y (show 7 - t < 8 by omega)
            rw [← hz] at hne
            replace hne : ((y.toNat : Int) != (z.toNat : Int)) = true := bne_iff_ne.2 hne
            clear hz
            subst hjD
            go_wp2
            go_quiet (fail)
            go_wp2
            go_roundg (L - (j + 1))
            case measure => omega
            case rel => exact ⟨j + 1, by omega, by go_num, H1.out.no ((Fr.refl No wr).drewN _), H2.out.no ((Fr.refl No wr).drewN _), H8.out.drewN _⟩
          · rw [if_neg hjD] at hz
            subst hz
            have hjD2 : ¬ (j : Int) = (D : Int) := by omega
            go_wp2
            go_quiet (fail)
            go_wp2
            go_roundg (L - (j + 1))
            case measure => omega
            case rel => exact ⟨j + 1, by omega, by go_num, H1.out.no ((Fr.refl No wr).drewN _), H2.out.no ((Fr.refl No wr).drewN _), H8.out.drewN _⟩
        · obtain ⟨ad1, rfl, e1⟩ := R1.byte (show D < (pack b).length by rw [HL1.out]; exact hDL)
          obtain ⟨ad2, rfl, e2⟩ := R2.byte (show D < (pack c).length by rw [HL2.out]; exact hDL)
          rw [pack_getD] at e1 e2
          have hz := hst.out D
          rw [if_pos rfl] at hz
          obtain ⟨y, hy⟩ : ∃ y, byteOf b D = y := ⟨_, rfl⟩
          rw [hy] at e1 hz
          have hxr := xor_bits y (show 7 - t < 8 by omega)
          rw [← hz] at hxr
          obtain ⟨z, hz2⟩ : ∃ z, byteOf c D = z := ⟨_, rfl⟩
          rw [hz2] at e2 hxr
          have H8 := Lib.hid F8
          have hsmall : (((2 : Int) ^ (7 - t)) == (2 : Int) ^ (7 - t) % 256) = true := by
            have h1 : (2 : Nat) ^ (7 - t) < 256 := Nat.lt_of_le_of_lt (Nat.pow_le_pow_right (by omega) (by omega : 7 - t ≤ 7)) (by decide)
            have e : ((2 : Int) ^ (7 - t)) = ((2 ^ (7 - t) : Nat) : Int) := by simp
            rw [e]
            generalize (2 : Nat) ^ (7 - t) = P at *
            simp; omega
          clear R1 R2 F8 hy hz hz2
          go_wp2
          go_quiet (fail)
          go_wp2
          go_ret
          exact ⟨by simp, H8.out.drewN _⟩
end Go.Proofs.Ytfkcpooljkpfpaa
