import Derived.Test.YtfkcpooljkpfpaaFiveW
namespace Go.Proofs.Ytfkcpooljkpfpaa
open Go.RowKit Go

theorem putBits_byte (y : UInt8) : putBits y.toNat 8 = ofBytes [y] := by
  apply bits_ext (by rw [putBits_length, ofBytes_length]; rfl)
  intro i hi
  rw [putBits_length] at hi
  rw [putBits_bit _ _ _ hi, bitAt_ofBytes, show i / 8 = 0 by omega, show i % 8 = i by omega]
  rfl
theorem got_byte (l : List UInt8) (k : Nat) (h : k < l.length) : got l (8 * k) false 8 = (l.getD k 0).toNat ∧ nextAt l (8 * k) false 8 = 8 * (k + 1) ∧ over l (8 * k) false 8 = false := by
  have ho : over l (8 * k) false 8 = false := by unfold over left; simp; omega
  refine ⟨?_, ?_, ho⟩
  · unfold got
    rw [if_neg (by rw [ho]; decide)]
    apply Nat.eq_of_testBit_eq
    intro j
    rw [num_testBit, bitAt_ofBytes]
    by_cases hj : j < 8
    · rw [show (8 * k + (8 - 1 - j)) / 8 = k by omega, show 7 - (8 * k + (8 - 1 - j)) % 8 = j by omega]
      simp [hj]
    · have : (l.getD k 0).toNat < 2 ^ j := Nat.lt_of_lt_of_le (UInt8.toNat_lt _) (Nat.pow_le_pow_right (by omega) (by omega : 8 ≤ j))
      rw [Nat.testBit_lt_two_pow this]; simp [hj]
  · unfold nextAt
    rw [if_neg (by rw [ho]; decide)]; omega
theorem ends_all (l : List UInt8) : ends l (8 * l.length) false = true := by unfold ends; simp [num]

set_option maxRecDepth 20000 in
set_option maxHeartbeats 4000000 in
theorem bitsOwn_any (A : Option Addr) (cap : Nat) (l : List UInt8) (c : Int) (w : World) (hr : Rd w A (bys l)) (hA : A = none → cap = 0) :
    Calls Try.prog 5 #[.slice A l.length cap, .int .u8 c] w fun e w' => e = .returned (.bool true) ∧ Fr No w w' := by
  have hl := hr.1
  rw [bys_length] at hl
  have HR := Lib.hid hr
  have HA := Lib.hid hA
  clear hr hA
  go_enter Try.func5, Try.ntmps5
  go_wp2_with fail
  refine (five_any _).mono ?_
  rintro e w1 ⟨rfl, F1⟩
  by_cases hb : 40 < l.length
  · go_wp2_with fail
    refine (five_any _).mono ?_
    rintro e w2 ⟨rfl, F2⟩
    go_wp2
    go_ret
    exact ⟨rfl, F1.trans F2 (fun _ k => k.elim)⟩
  · go_wp2_with fail
    refine (join_any (B := none) (d := 0) (m := []) (HR.out.no F1) (Rd.nil _ _) HA.out (fun _ => rfl) (by simp; omega)).mono ?_
    rintro e w2 ⟨v, rfl, O, B, F2⟩
    rw [List.append_nil] at O
    have G2 := F1.trans F2 (fun _ k => k.elim)
    obtain ⟨Q, d, rfl, hQ, _, R⟩ := O.shape2
    rw [bys_length] at O B ⊢
    have HN := Lib.hid (newReader_any (c := d) R hQ (by omega))
    go_wp2_with fail
    refine HN.out.mono ?_
    rintro e w3 ⟨g, B3, d3, rfl, R3, hg, hB3, F3⟩
    have G3 := G2.trans F3 (fun _ k => k.elim)
    have O3 := O.fr F3 (fun _ _ k => k)
    have hQlt : ∀ k, (Value.slice Q l.length d).ownBlock = some k → k < w2.heap.size := fun k hk => O.lt hk
    have hQnew : ∀ k, (Value.slice Q l.length d).ownBlock = some k → w.heap.size ≤ k := fun k hk => Nat.le_trans F1.size (B.out k hk)
    have HQ1 := Lib.hid hQlt
    have HQ2 := Lib.hid hQnew
    have hgs := Lib.hid (Nat.le_trans G2.size hg)
    have hgw2 := Lib.hid hg
    have HB3 := Lib.hid hB3
    clear O R F1 F2 F3 G2 HN B hQlt hQnew hg hB3 hQ
    go_wp2
    go_loopg [7] l.length (fun gk i wr => ∃ (k : Nat) (xs : List Value), k + gk = l.length ∧ i = .int .i64 (k : Int) ∧ xs.length = l.length ∧ Own wr 5 (.slice Q l.length d) xs ∧ Rr wr g B3 d3 l 0 false ∧ Fr No w wr)
    case atStart => exact ⟨0, bys l, by omega, rfl, bys_length l, O3, R3, G3⟩
    case round =>
      obtain ⟨k, xs, hk, rfl, hxl, O4, R4, F4⟩ := hrel
      clear O3 R3 G3
      by_cases hkl : k < l.length
      · obtain ⟨q, cc, hv, _, _, hown, _, hfz, hcl, hset⟩ := O4.form (by omega)
        injection hv with hv1 hv2 hv3
        subst hv1
        have c1 := hcl k (by omega)
        have f1 := hfz k
        obtain ⟨xk, hxk⟩ : ∃ xk, xs.getD k undef = xk := ⟨_, rfl⟩
        rw [hxk] at c1
        have O5 := hset k (.int .u8 c) (by omega)
        have hq2 := HQ1.out q rfl
        have F5 := F4.setCell (p := ⟨q, k, none⟩) (.inr (HQ2.out q rfl)) (.int .u8 c)
        have fs : Fr (fun i => i = q) wr (wr.setCell ⟨q, k, none⟩ (.int .u8 c)) := (Fr.refl (fun i => i = q) wr).setCell (p := ⟨q, k, none⟩) (.inl rfl) _
        have R5 := R4.fr fs (fun e => by have := hgw2.out; omega) (fun ad e e2 => by have := HB3.out ad e; omega)
        have H5 := Lib.hid O5
        have H6 := Lib.hid R5
        have H7 := Lib.hid F5
        have HXL := Lib.hid hxl
        clear O4 R4 F4 O5 R5 F5 fs hset hcl hfz hown hv2 hv3 hxk hxl
        go_wp2
        go_roundg (l.length - (k + 1))
        case measure => omega
        case rel => exact ⟨k + 1, _, by omega, by go_num, by rw [List.length_set]; exact HXL.out, H5.out, H6.out, H7.out⟩
      · clear O4
        have H4 := Lib.hid R4
        have HF4 := Lib.hid F4
        clear R4 F4
        have hgl := blk_lt H4.out.blk
        have hBl := Lib.hid H4.out.lt
        have hwl := HF4.out.size
        have W0 := wr_new wr
        have R0 := H4.out.fr ((Fr.refl No wr).alloc (.cells #[.slice none 0 0, .int .i64 0] 37)) (fun k => k) (fun _ _ k => k)
        have G0 := HF4.out.alloc (.cells #[.slice none 0 0, .int .i64 0] 37)
        obtain ⟨gw, hgw⟩ : ∃ gw, wr.heap.size = gw := ⟨_, rfl⟩
        rw [hgw] at W0 hgl hBl hwl
        have HW0 := Lib.hid W0
        have HR0 := Lib.hid R0
        have HG0 := Lib.hid G0
        clear W0 R0 G0
        go_wp2
        go_loopg [9] l.length (fun gk i wx => ∃ (k : Nat) (v : Value), k + gk = l.length ∧ i = .int .i64 (k : Int) ∧ Rr wx g B3 d3 l (8 * k) false ∧ Wr wx gw v (ofBytes (l.take k)) ∧ Hid (∀ j, v.ownBlock = some j → gw ≤ j) ∧ Fr No w wx)
        case atStart => exact ⟨0, _, by omega, rfl, HR0.out, HW0.out, (fun j h => by simp [Value.ownBlock] at h), HG0.out⟩
        case round =>
          obtain ⟨k2, v2, hk2, rfl, R5, W5, N5, F5⟩ := hrel
          clear HW0 HR0 HG0
          by_cases hkl2 : k2 < l.length
          · obtain ⟨y, hy⟩ : ∃ y, l.getD k2 0 = y := ⟨_, rfl⟩
            obtain ⟨e1, e2, e3⟩ := got_byte l k2 hkl2
            rw [hy] at e1
            have HGT := Lib.hid (get_any R5 8)
            rw [show clamp 8 = 8 from rfl, e1, e2, e3] at HGT
            have htk : Hid (ofBytes (l.take (k2 + 1)) = ofBytes (l.take k2) ++ ofBytes [y]) := by
              show ofBytes (l.take (k2 + 1)) = ofBytes (l.take k2) ++ ofBytes [y]
              rw [← ofBytes_append, List.take_add_one, ← hy, List.getD_eq_getElem?_getD, List.getElem?_eq_getElem hkl2]; rfl
            have HW5 := Lib.hid W5
            have HF5 := Lib.hid F5
            clear R5 W5 F5 e1 e2 e3 hy
            go_wp2_with fail
            refine HGT.out.mono ?_
            rintro e w6 ⟨rfl, R6, F6⟩
            have W6 := HW5.out.fr F6 (fun e => by have : gw = g := e; omega) (fun j hj e => by have := N5.out j hj; have e2 : j = g := e; omega)
            have G6 := HF5.out.trans F6 (fun i hi => .inr (by rw [show i = g from hi]; exact hgs.out))
            have HPT := Lib.hid (put_any W6 (by rw [ofBytes_length, List.length_take]; omega) y.toNat (by have := y.toNat_lt; omega) 8)
            rw [show clamp 8 = 8 from rfl, putBits_byte, ← htk.out] at HPT
            have HR6 := Lib.hid R6
            have HG6 := Lib.hid G6
            have hgz : Hid (gw ≤ w6.heap.size) := by show gw ≤ w6.heap.size; have := blk_lt W6.blk; omega
            clear R6 G6 W6 F6 HGT
            go_wp2_with fail
            refine HPT.out.mono ?_
            rintro e w7 ⟨rfl, v7, W7, F7, K7⟩
            have R7 := HR6.out.fr F7 (by
              rintro (e | e)
              · omega
              · have := N5.out g e; omega) (fun ad e => by
              rintro (e2 | e2)
              · have := hBl.out ad e; omega
              · have := hBl.out ad e; have := N5.out _ e2; omega)
            have G7 := HG6.out.trans F7 (fun i hi => .inr (by
              rcases hi with e | e
              · omega
              · have := N5.out i e; omega))
            have N7 : Hid (∀ j, v7.ownBlock = some j → gw ≤ j) := by
              show ∀ j, v7.ownBlock = some j → gw ≤ j
              intro j hj
              rcases K7 with e | ⟨i, e, hi⟩
              · rw [e] at hj; exact N5.out j hj
              · rw [e] at hj; cases hj; exact Nat.le_trans hgz.out hi
            have HR7 := Lib.hid R7
            have HW7 := Lib.hid W7
            have HG7 := Lib.hid G7
            clear R7 W7 G7 K7 F7
            go_wp2
            go_roundg (l.length - (k2 + 1))
            case measure => omega
            case rel => exact ⟨k2 + 1, v7, by omega, by go_num, HR7.out, HW7.out, N7, HG7.out⟩
          · obtain rfl : k2 = l.length := by omega
            rw [List.take_length] at W5
            have HBY := Lib.hid (wbytes_any W5 (by rw [ofBytes_length]; omega))
            rw [pack_ofBytes] at HBY
            have HW5 := Lib.hid W5
            have HR5 := Lib.hid R5
            have HF5 := Lib.hid F5
            have hwx := Lib.hid (blk_lt W5.blk)
            have hrx := Lib.hid (blk_lt R5.blk)
            have hax := Lib.hid R5.lt
            have hox : Hid (∀ j, v2.ownBlock = some j → j < _) := fun j hj => W5.own.lt hj
            clear W5 R5 F5
            go_wp2_with fail
            refine HBY.out.mono ?_
            rintro e w8 ⟨v8, rfl, O8, B8, F8⟩
            obtain ⟨Q8, d8, hv8, _, _, _⟩ := O8.shape
            rw [bys_length] at hv8
            subst hv8
            have H8 := Lib.hid O8
            have HW8 := Lib.hid (HW5.out.fr F8 (fun k => k) (fun _ _ k => k))
            have HR8 := Lib.hid (HR5.out.fr F8 (fun k => k) (fun _ _ k => k))
            have HF8 := Lib.hid (HF5.out.trans F8 (fun _ k => k.elim))
            clear O8 F8 HBY HW5 HR5
            go_wp2
            go_loopg [11] l.length (fun gk i wy => ∃ (k : Nat) (xs : List Value), k + gk = l.length ∧ i = .int .i64 (k : Int) ∧ xs.length = l.length ∧ Own wy 5 (.slice Q8 l.length d8) xs ∧ Rr wy g B3 d3 l (8 * l.length) false ∧ Wr wy gw v2 (ofBytes l) ∧ Fr No w wy)
            case atStart => exact ⟨0, bys l, by omega, rfl, bys_length l, H8.out, HR8.out, HW8.out, HF8.out⟩
            case round =>
              obtain ⟨k3, xs, hk3, rfl, hxl, O9, R9, W9, F9⟩ := hrel
              clear H8 HW8 HR8 HF8
              by_cases hkl3 : k3 < l.length
              · obtain ⟨q, cc, hv, _, _, hown, _, hfz, hcl, hset⟩ := O9.form (by omega)
                injection hv with hv1 hv2 hv3
                subst hv1
                have c1 := hcl k3 (by omega)
                have f1 := hfz k3
                obtain ⟨xk, hxk⟩ : ∃ xk, xs.getD k3 undef = xk := ⟨_, rfl⟩
                rw [hxk] at c1
                have O5 := hset k3 (.int .u8 c) (by omega)
                have hq8 := B8.out q rfl
                have F5 := F9.setCell (p := ⟨q, k3, none⟩) (.inr (by have := HF5.out.size; show w.heap.size ≤ q; omega)) (.int .u8 c)
                have fs : Fr (fun i => i = q) wr (wr.setCell ⟨q, k3, none⟩ (.int .u8 c)) := (Fr.refl (fun i => i = q) wr).setCell (p := ⟨q, k3, none⟩) (.inl rfl) _
                have R5 := R9.fr fs (fun e => by have := hrx.out; omega) (fun ad e e2 => by have := hax.out ad e; omega)
                have W5 := W9.fr fs (fun e => by have := hwx.out; omega) (fun j hj e => by have := hox.out j hj; omega)
                have H5 := Lib.hid O5
                have H6 := Lib.hid R5
                have H7 := Lib.hid F5
                have H9 := Lib.hid W5
                have HXL := Lib.hid hxl
                clear O9 R9 W9 F9 O5 R5 W5 F5 fs hset hcl hfz hown hv2 hv3 hxk hxl
                go_wp2
                go_roundg (l.length - (k3 + 1))
                case measure => omega
                case rel => exact ⟨k3 + 1, _, by omega, by go_num, by rw [List.length_set]; exact HXL.out, H5.out, H6.out, H9.out, H7.out⟩
              · clear O9
                have HBY := Lib.hid (wbytes_any W9 (by rw [ofBytes_length]; omega))
                rw [pack_ofBytes] at HBY
                have HR9 := Lib.hid R9
                have HF9 := Lib.hid F9
                clear W9 R9 F9
                go_wp2_with fail
                refine HBY.out.mono ?_
                rintro e wa ⟨va, rfl, Oa, Ba, Fa⟩
                have Ga := HF9.out.trans Fa (fun _ k => k.elim)
                obtain ⟨Aa, ca, rfl, _, _, Ra⟩ := Oa.shape
                have HEQ := Lib.hid (refBytes_any (c := ca) (d := cap) Ra (HR.out.no Ga))
                rw [show decide (l = l) = true from decide_eq_true rfl] at HEQ
                rw [bys_length]
                have HRa := Lib.hid (HR9.out.fr Fa (fun k => k) (fun _ _ k => k))
                clear Ra Oa Ba Fa HBY
                go_wp2_with fail
                refine HEQ.out.mono ?_
                rintro e wb ⟨rfl, Fb⟩
                have HEN := Lib.hid (rend_any (HRa.out.fr Fb (fun k => k) (fun _ _ k => k)))
                rw [ends_all] at HEN
                have Gb := Ga.trans Fb (fun _ k => k.elim)
                clear Fb Ga
                go_wp2_with fail
                refine HEN.out.mono ?_
                rintro e wd ⟨rfl, Fd⟩
                go_wp2
                go_ret
                exact ⟨rfl, Gb.trans Fd (fun _ k => k.elim)⟩
end Go.Proofs.Ytfkcpooljkpfpaa
