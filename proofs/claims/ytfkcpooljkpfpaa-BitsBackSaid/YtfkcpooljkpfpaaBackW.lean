import Derived.Test.YtfkcpooljkpfpaaLayW
namespace Go.Proofs.Ytfkcpooljkpfpaa
open Go.RowKit Go

theorem laid_split (l : Its) (k : Nat) (hk : k < l.length) : laid l = laid (l.take k) ++ putBits (l.getD k (0, 0)).1 (wide (l.getD k (0, 0)).2) ++ laid (l.drop (k + 1)) := by
  rw [← laid_take l k hk]
  unfold laid
  rw [← List.flatMap_append, List.take_append_drop]
theorem back_step (l : Its) (k : Nat) (hk : k < l.length) (W : Nat) (hW : wide (l.getD k (0, 0)).2 = W) :
    got (pack (laid l)) (laid (l.take k)).length false W = (l.getD k (0, 0)).1 % 2 ^ W ∧ nextAt (pack (laid l)) (laid (l.take k)).length false W = (laid (l.take (k + 1))).length ∧ over (pack (laid l)) (laid (l.take k)).length false W = false := by
  have hs := laid_split l k hk
  rw [hW] at hs
  have hlen : (laid (l.take (k + 1))).length = (laid (l.take k)).length + W := by rw [laid_take l k hk, hW, List.length_append, putBits_length]
  have hle : (laid (l.take k)).length + W ≤ (laid l).length := by rw [hs]; simp only [List.length_append, putBits_length]; omega
  have ho : over (pack (laid l)) (laid (l.take k)).length false W = false := by
    unfold over left
    rw [pack_length]
    simp
    omega
  refine ⟨?_, ?_, ho⟩
  · unfold got
    rw [if_neg (by rw [ho]; decide)]
    rw [num_congr (g := bitAt (laid l)) (t := (laid (l.take k)).length) (fun j _ => bitAt_pack _ _)]
    have h2 := num_put (laid (l.take k)) (laid (l.drop (k + 1))) (l.getD k (0, 0)).1 W
    rw [← hs] at h2
    exact h2
  · unfold nextAt
    rw [if_neg (by rw [ho]; decide), hlen]
theorem back_end (b : List Bool) : ends (pack b) b.length false = true := by
  have h1 : num (bitAt (ofBytes (pack b))) b.length (8 * ((b.length + 7) / 8) - b.length) = 0 := by
    rw [num_zero]
    intro j _
    rw [bitAt_pack]
    exact bitAt_out (by omega)
  unfold ends
  rw [pack_length, h1]
  simp
  omega

set_option maxRecDepth 20000 in
set_option maxHeartbeats 4000000 in
theorem bitsBack_any {A : Option Addr} {cap : Nat} {l : Its} (w : World) (hr : RdI w A l) (hok : itsOk l) :
    Calls Try.prog 7 #[.slice A l.length cap] w fun e w' => e = .returned (.bool true) ∧ Fr No w w' := by
  have HR := Lib.hid hr
  have HOK := Lib.hid hok
  clear hr hok
  go_enter Try.func7, Try.ntmps7
  go_wp2_with fail
  refine (five_any _).mono ?_
  rintro e w1 ⟨rfl, F1⟩
  by_cases hl : 40 < l.length
  · go_wp2_with fail
    refine (five_any _).mono ?_
    rintro e w2 ⟨rfl, F2⟩
    go_wp2
    go_ret
    exact ⟨rfl, F1.trans F2 (fun _ k => k.elim)⟩
  · go_wp2_with fail
    refine (lay_any (HR.out.no F1) HOK.out (by omega)).mono ?_
    rintro e w2 ⟨g, v, B, d, rfl, W2, R2, N2, hg, F2⟩
    have hn64 := laid_len l
    have G2 := F1.trans F2 (fun _ k => k.elim)
    have HLN := Lib.hid (len_any W2)
    have HBY := Lib.hid (wbytes_any W2 (by omega))
    have HW2 := Lib.hid W2
    have HR2 := Lib.hid R2
    have HG2 := Lib.hid G2
    have HB := Lib.hid (refPack_any (c := d) R2 (by omega))
    clear F1 F2 W2 R2 N2 G2 HB
    go_wp2_with fail
    refine HLN.out.mono ?_
    rintro e w3 ⟨rfl, rfl⟩
    go_wp2_with fail
    refine HBY.out.mono ?_
    rintro e w4 ⟨v4, rfl, O4, _, F4⟩
    obtain ⟨A4, c4, rfl, _, _, R4⟩ := O4.shape
    have HB := Lib.hid (refPack_any (c := d) (HR2.out.no F4) (by omega))
    have HR4 := Lib.hid R4
    have HF4 := Lib.hid F4
    clear O4 F4 R4 HBY HLN HR2
    go_wp2_with fail
    refine HB.out.mono ?_
    rintro e w5 ⟨v5, rfl, O5, _, F5⟩
    obtain ⟨A5, c5, rfl, _, _, R5⟩ := O5.shape
    have HE := Lib.hid (refBytes_any (c := c4) (d := c5) (HR4.out.no F5) R5)
    rw [show decide (pack (laid l) = pack (laid l)) = true from decide_eq_true rfl] at HE
    have HF5 := Lib.hid (HF4.out.trans F5 (fun _ k => k.elim))
    rw [bys_length]
    clear O5 F5 R5 HF4 HR4 HB
    go_wp2_with fail
    refine HE.out.mono ?_
    rintro e w6 ⟨rfl, F6⟩
    have F66 := HF5.out.trans F6 (fun _ k => k.elim)
    have HBY := Lib.hid (wbytes_any (HW2.out.fr F66 (fun k => k) (fun _ _ k => k)) (by omega))
    have HF6 := Lib.hid (HG2.out.trans F66 (fun _ k => k.elim))
    clear HF5 F6 F66 HE HW2 HG2
    go_wp2_with fail
    refine HBY.out.mono ?_
    rintro e w7 ⟨v7, rfl, O7, _, F7⟩
    obtain ⟨A7, c7, rfl, hA7, _, R7⟩ := O7.shape2
    have HN := Lib.hid (newReader_any (c := c7) R7 hA7 (by rw [pack_length]; omega))
    have HF7 := Lib.hid (HF6.out.trans F7 (fun _ k => k.elim))
    rw [bys_length]
    clear O7 F7 R7 HF6 HBY hA7
    go_wp2_with fail
    refine HN.out.mono ?_
    rintro e w8 ⟨r, B8, d8, rfl, R8, hr8, hB8, F8⟩
    have HR8 := Lib.hid R8
    have HF8 := Lib.hid (HF7.out.trans F8 (fun _ k => k.elim))
    have hrg : Hid (w.heap.size ≤ r) := by show w.heap.size ≤ r; have := HF7.out.size; omega
    clear R8 F8 HF7 HN hr8 hB8 hg hn64
    go_wp2
    go_loopg [6] l.length (fun gk i wr => ∃ k : Nat, k + gk = l.length ∧ i = .int .i64 (k : Int) ∧ Rr wr r B8 d8 (pack (laid l)) (laid (l.take k)).length false ∧ Fr No w wr)
    case atStart => exact ⟨0, by omega, rfl, HR8.out, HF8.out⟩
    case round =>
      obtain ⟨k, hk, rfl, R9, F9⟩ := hrel
      clear HR8 HF8
      by_cases hkl : k < l.length
      · obtain ⟨ad, rfl, c0, c1⟩ := (HR.out.no F9).2 k hkl
        have hbd := HOK.out (l.getD k (0, 0)) (by rw [List.getD_eq_getElem?_getD, List.getElem?_eq_getElem hkl]; exact List.getElem_mem hkl)
        have hbs := back_step l k hkl (wide (l.getD k (0, 0)).2) rfl
        obtain ⟨N, hN⟩ : ∃ N, (l.getD k (0, 0)).1 = N := ⟨_, rfl⟩
        obtain ⟨y, hy⟩ : ∃ y, (l.getD k (0, 0)).2 = y := ⟨_, rfl⟩
        rw [hN, hy] at hbd hbs
        rw [hN] at c0
        rw [hy, add_next ad (k * 2) 0] at c1
        obtain ⟨t, hT⟩ : ∃ t, y % 66 = t := ⟨_, rfl⟩
        have i1 : (y : Int).tmod 66 = (t : Int) := by rw [Int.tmod_eq_emod_of_nonneg (Int.natCast_nonneg _)]; omega
        have i2 : IntKind.u8.wrap (t : Int) = (t : Int) := by rw [IntKind.wrap_u8]; omega
        have i3 : IntKind.i64.wrap (t : Int) = (t : Int) := by rw [IntKind.wrap_i64]; omega
        obtain ⟨W, hW⟩ : ∃ W, wide y = W := ⟨_, rfl⟩
        have hWt : clamp (t : Int) = W := by rw [← hW]; unfold wide; congr 1; omega
        have hWv : (W : Int) = min (max (t : Int) 0) 64 := by rw [← hWt, clamp_int]
        rw [hW] at hbs
        have HGT := Lib.hid (get_any R9 (t : Int))
        rw [hWt, hbs.1, hbs.2.1, hbs.2.2] at HGT
        obtain ⟨M, hM⟩ : ∃ M, N % 2 ^ W = M := ⟨_, rfl⟩
        rw [hM] at HGT
        have HF9 := Lib.hid F9
        have ht66 : t < 66 := by omega
        by_cases h1 : t < 64
        · obtain ⟨P, hP⟩ : ∃ P, 2 ^ t = P := ⟨_, rfl⟩
          have hP0 : 0 < P := by rw [← hP]; exact Nat.pow_pos (by omega)
          have hP64 : P ≤ 9223372036854775808 := by
            rw [← hP]
            have : 2 ^ t ≤ 2 ^ 63 := Nat.pow_le_pow_right (by omega) (by omega)
            exact this
          have hWt2 : W = t := by omega
          have e0 : ((2 : Int) ^ t) = (P : Int) := by rw [← hP]; simp
          have e1 : IntKind.u64.wrap (P : Int) = (P : Int) := by rw [IntKind.wrap_u64]; omega
          have e2 : (N : Int) % (P : Int) = (M : Int) := by rw [← hM, hWt2, hP]; simp
          have e3 : ¬ (P : Int) = 0 := by omega
          clear hbs hbd hN hy hT hW hWt hWv hM R9 F9 hP hWt2
          go_wp2_with fail
          rw [e2]
          refine HGT.out.mono ?_
          rintro e wg ⟨rfl, R10, F10⟩
          have HR10 := Lib.hid R10
          have HOKC := Lib.hid (ok_any R10)
          have HF10 := Lib.hid (HF9.out.trans F10 (fun i hi => .inr (by rw [show i = r from hi]; exact hrg.out)))
          clear R10 F10 HGT HF9
          go_wp2_with fail
          refine HOKC.out.mono ?_
          rintro e wh ⟨rfl, rfl⟩
          go_wp2
          go_roundg (l.length - (k + 1))
          case measure => omega
          case rel => exact ⟨k + 1, by omega, by go_num, HR10.out, HF10.out⟩
        · have hMN : M = N := by
            have : W = 64 := by omega
            rw [← hM, this]
            exact Nat.mod_eq_of_lt hbd.1
          subst hMN
          clear hbs hbd hN hy hT hW hWt hWv hM R9 F9
          by_cases h2 : 64 < t
          · go_wp2_with fail
            refine HGT.out.mono ?_
            rintro e wg ⟨rfl, R10, F10⟩
            have HR10 := Lib.hid R10
            have HOKC := Lib.hid (ok_any R10)
            have HF10 := Lib.hid (HF9.out.trans F10 (fun i hi => .inr (by rw [show i = r from hi]; exact hrg.out)))
            clear R10 F10 HGT HF9
            go_wp2_with fail
            refine HOKC.out.mono ?_
            rintro e wh ⟨rfl, rfl⟩
            go_wp2
            go_roundg (l.length - (k + 1))
            case measure => omega
            case rel => exact ⟨k + 1, by omega, by go_num, HR10.out, HF10.out⟩
          · go_wp2_with fail
            refine HGT.out.mono ?_
            rintro e wg ⟨rfl, R10, F10⟩
            have HR10 := Lib.hid R10
            have HOKC := Lib.hid (ok_any R10)
            have HF10 := Lib.hid (HF9.out.trans F10 (fun i hi => .inr (by rw [show i = r from hi]; exact hrg.out)))
            clear R10 F10 HGT HF9
            go_wp2_with fail
            refine HOKC.out.mono ?_
            rintro e wh ⟨rfl, rfl⟩
            go_wp2
            go_roundg (l.length - (k + 1))
            case measure => omega
            case rel => exact ⟨k + 1, by omega, by go_num, HR10.out, HF10.out⟩
      · obtain rfl : k = l.length := by omega
        rw [List.take_length] at R9
        have HE := Lib.hid (rend_any R9)
        rw [back_end] at HE
        have HF9 := Lib.hid F9
        clear R9 F9
        go_wp2_with fail
        refine HE.out.mono ?_
        rintro e wz ⟨rfl, Fz⟩
        go_wp2
        go_ret
        exact ⟨rfl, HF9.out.trans Fz (fun _ k => k.elim)⟩
end Go.Proofs.Ytfkcpooljkpfpaa
