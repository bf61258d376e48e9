import Derived.Test.YthimhjdanmejmaaRefI2
import Derived.Deep.RegionHeld3
namespace Go.Proofs.Ythimhjdanmejmaa
open Go.RowKit Go

theorem add_next (ad : Addr) (n i : Nat) : ad.add (n + (i + 1)) = ⟨(ad.add n).block, (ad.add n).off + (i + 1), none⟩ := by
  unfold Addr.add
  by_cases h : n = 0
  · subst h; simp
  · simp [h, Nat.add_assoc]
theorem decIAll_len (p : List UInt8) : (decIAll p).1.length ≤ 255 := by
  unfold decIAll
  split
  · show (decI (body p)).1.length ≤ 255
    unfold decI
    have := gt_lt (body p) (0, false) 8
    split
    · simp
    · split
      · show (lkL _ _ _).length ≤ 255
        rw [lkL_length]; omega
      · simp
  · simp
/-- What element i's cells hold. -/
theorem Rows.at {w0 w : World} {e : TypeId} {A : Option Addr} {n c : Nat} {M : List LkM} (h : Rows w0 w e (.slice A n c) M) {i : Nat} (hi : i < M.length) :
    ∃ ad, A = some ad ∧ w.cell? (ad.add (i * 4)) = some (.int .i64 ((M[i]).1.r : Int)) ∧ w.cell? ⟨(ad.add (i * 4)).block, (ad.add (i * 4)).off + 1, none⟩ = some (.int .i64 ((M[i]).1.t : Int)) ∧ w.cell? ⟨(ad.add (i * 4)).block, (ad.add (i * 4)).off + 2, none⟩ = some (.int .i64 (M[i]).1.e) ∧
      w.cell? ⟨(ad.add (i * 4)).block, (ad.add (i * 4)).off + 3, none⟩ = some (.slice (M[i]).2.1 (M[i]).1.p.length (M[i]).2.2) ∧ Rd w (M[i]).2.1 (bys (M[i]).1.p) := by
  obtain ⟨A', c', hv, _, _, _, hr1, _, hr⟩ := h.own.shape
  injection hv with e1 e2 e3
  subst e1
  have hlen : ∀ r, r < 4 → i * 4 + r < M.length * 4 := fun r hr => by omega
  have hc : ∀ r, r < 4 → ∃ ad, A = some ad ∧ w.cell? (ad.add (i * 4 + r)) = some ((lcells M[i]).getD r undef) := by
    intro r hr4
    obtain ⟨ad, e, hcell⟩ := hr (i * 4 + r) (hlen r hr4)
    exact ⟨ad, e, by rw [hcell, flat_getD lcells 4 lcells_length M i r hi hr4]⟩
  obtain ⟨ad, rfl, c0⟩ := hc 0 (by omega)
  obtain ⟨_, e, c1⟩ := hc 1 (by omega)
  cases e
  obtain ⟨_, e, c2⟩ := hc 2 (by omega)
  cases e
  obtain ⟨_, e, c3⟩ := hc 3 (by omega)
  cases e
  rw [add_next ad (i * 4) 0] at c1
  rw [add_next ad (i * 4) 1] at c2
  rw [add_next ad (i * 4) 2] at c3
  exact ⟨ad, rfl, c0, c1, c2, c3, (h.rd _ (List.getElem_mem hi)).1⟩

set_option maxRecDepth 20000 in
set_option maxHeartbeats 4000000 in
theorem reads_any {A : Option Addr} {c : Nat} {p : List UInt8} {w : World} (hl : Rd w A (bys p)) (hc : p.length ≤ c) (hlen : p.length ≤ 1000000) :
    Calls Try.prog 6 #[.slice A p.length c] w fun e w' => e = .returned (.bool true) ∧ Fr No w w' := by
  have HL := Lib.hid hl
  have HD := Lib.hid (decode_any hl hc hlen)
  obtain ⟨L, hL⟩ : ∃ L, (decIAll p).1 = L := ⟨_, rfl⟩
  obtain ⟨k, hk⟩ : ∃ k, (decIAll p).2 = k := ⟨_, rfl⟩
  have hLL := decIAll_len p
  rw [hL] at hLL
  rw [hL, hk] at HD
  clear hl
  go_enter Try.func6, Try.ntmps6
  go_wp2_with fail
  refine HD.out.mono ?_
  rintro e w1 ⟨v1, M1, rfl, hM1, R1, F1⟩
  have HR := Lib.hid (refDecode_any (HL.out.no F1) hc hlen)
  rw [hL, hk] at HR
  have HR1 := Lib.hid R1
  have HM1 := Lib.hid hM1
  have HF1 := Lib.hid F1
  clear R1 hM1 F1 HD hL hk
  go_wp2_with fail
  refine HR.out.mono ?_
  rintro e w2 ⟨v2, M2, rfl, hM2, R2, F2⟩
  have R1 := HR1.out.no F2
  obtain ⟨A1, c1, e1, _, _, _, _⟩ := R1.own.shape
  obtain ⟨A2, c2, e2, _, _, _, _⟩ := R2.own.shape
  have l1 : M1.length = L.length := by rw [← HM1.out, List.length_map]
  have l2 : M2.length = L.length := by rw [← hM2, List.length_map]
  rw [l1] at e1
  rw [l2] at e2
  subst e1 e2
  have HRA := Lib.hid R1
  have HRB := Lib.hid R2
  have HM2 := Lib.hid hM2
  have HL1 := Lib.hid l1
  have HL2 := Lib.hid l2
  have HF2 := Lib.hid (HF1.out.trans F2 (fun _ k => k.elim))
  clear R1 R2 hM2 F2 HR HR1 HF1 l1 l2
  go_wp2
  go_loopg [7] L.length (fun gk i wr => ∃ j : Nat, j + gk = L.length ∧ i = .int .i64 (j : Int) ∧ Hid (Fr No w2 wr))
  case atStart => exact ⟨0, by omega, rfl, Fr.refl _ _⟩
  case round =>
    obtain ⟨j, hj, rfl, HF⟩ := hrel
    by_cases hjl : j < L.length
    · have hj1 : j < M1.length := by rw [HL1.out]; exact hjl
      have hj2 : j < M2.length := by rw [HL2.out]; exact hjl
      obtain ⟨ad, rfl, p0, p1, p2, p3, rp⟩ := (HRA.out.no HF.out).at hj1
      obtain ⟨bd, rfl, q0, q1, q2, q3, rq⟩ := (HRB.out.no HF.out).at hj2
      have x1 : (M1[j]).1 = L[j] := by
        have := congrArg (fun l => l[j]?) HM1.out
        simp only [List.getElem?_map, List.getElem?_eq_getElem hj1, List.getElem?_eq_getElem hjl, Option.map_some] at this
        exact Option.some.inj this
      have x2 : (M2[j]).1 = L[j] := by
        have := congrArg (fun l => l[j]?) HM2.out
        simp only [List.getElem?_map, List.getElem?_eq_getElem hj2, List.getElem?_eq_getElem hjl, Option.map_some] at this
        exact Option.some.inj this
      obtain ⟨P1, hP1⟩ : ∃ P1, (M1[j]).2 = P1 := ⟨_, rfl⟩
      obtain ⟨P2, hP2⟩ : ∃ P2, (M2[j]).2 = P2 := ⟨_, rfl⟩
      rw [x1] at p0 p1 p2
      rw [x1, hP1] at p3 rp
      rw [x2] at q0 q1 q2
      rw [x2, hP2] at q3 rq
      obtain ⟨x, hx⟩ : ∃ x, L[j] = x := ⟨_, rfl⟩
      rw [hx] at p0 p1 p2 p3 rp q0 q1 q2 q3 rq
      obtain ⟨B1, d1⟩ := P1
      obtain ⟨B2, d2⟩ := P2
      simp only at p3 q3 rp rq
      obtain ⟨N, hN⟩ : ∃ N, x.p.length = N := ⟨_, rfl⟩
      have KB : Hid (∀ W, Fr No wr W → Calls Try.prog 14 #[.slice B1 N d1, .slice B2 N d2] W fun e w' => e = .returned (.bool true) ∧ Fr No wr w') := by
        show ∀ W, _
        intro W hW
        rw [← hN]
        refine (refBytes_any (rp.no hW) (rq.no hW)).mono ?_
        rintro e w' ⟨rfl, F⟩
        exact ⟨by simp, hW.trans F (fun _ k => k.elim)⟩
      rw [hN] at p3 q3
      have KC : Hid (∀ W, Fr No wr W → W.cell? (ad.add (j * 4)) = some (.int .i64 (x.r : Int)) ∧ W.cell? ⟨(ad.add (j * 4)).block, (ad.add (j * 4)).off + 1, none⟩ = some (.int .i64 (x.t : Int)) ∧ W.cell? ⟨(ad.add (j * 4)).block, (ad.add (j * 4)).off + 2, none⟩ = some (.int .i64 x.e) ∧ W.cell? ⟨(ad.add (j * 4)).block, (ad.add (j * 4)).off + 3, none⟩ = some (.slice B1 N d1) ∧
          W.cell? (bd.add (j * 4)) = some (.int .i64 (x.r : Int)) ∧ W.cell? ⟨(bd.add (j * 4)).block, (bd.add (j * 4)).off + 1, none⟩ = some (.int .i64 (x.t : Int)) ∧ W.cell? ⟨(bd.add (j * 4)).block, (bd.add (j * 4)).off + 2, none⟩ = some (.int .i64 x.e) ∧ W.cell? ⟨(bd.add (j * 4)).block, (bd.add (j * 4)).off + 3, none⟩ = some (.slice B2 N d2)) := by
        show ∀ W, _
        exact fun W h => ⟨h.cell p0 (fun k => k), h.cell p1 (fun k => k), h.cell p2 (fun k => k), h.cell p3 (fun k => k), h.cell q0 (fun k => k), h.cell q1 (fun k => k), h.cell q2 (fun k => k), h.cell q3 (fun k => k)⟩
      have FD := (Fr.refl No wr).drew
      have HFF := Lib.hid HF.out
      have j1 : (0 : Int) ≤ (j : Int) := by omega
      have j2 : (j : Int) < (L.length : Int) := by omega
      clear x1 x2 hP1 hP2 hx rp rq hN hj1 hj2
      go_wp2
      go_region_held3 (fun W => W.cell? (ad.add (j * 4)) = some (.int .i64 (x.r : Int)) ∧ W.cell? ⟨(ad.add (j * 4)).block, (ad.add (j * 4)).off + 1, none⟩ = some (.int .i64 (x.t : Int)) ∧ W.cell? ⟨(ad.add (j * 4)).block, (ad.add (j * 4)).off + 2, none⟩ = some (.int .i64 x.e) ∧ W.cell? ⟨(ad.add (j * 4)).block, (ad.add (j * 4)).off + 3, none⟩ = some (.slice B1 N d1) ∧
          W.cell? (bd.add (j * 4)) = some (.int .i64 (x.r : Int)) ∧ W.cell? ⟨(bd.add (j * 4)).block, (bd.add (j * 4)).off + 1, none⟩ = some (.int .i64 (x.t : Int)) ∧ W.cell? ⟨(bd.add (j * 4)).block, (bd.add (j * 4)).off + 2, none⟩ = some (.int .i64 x.e) ∧ W.cell? ⟨(bd.add (j * 4)).block, (bd.add (j * 4)).off + 3, none⟩ = some (.slice B2 N d2))
        (first | exact KC.out _ (by assumption) | go_keep)
        (first | (go_at_call 14; refine (KB.out _ ?_).mono ?_; assumption; rintro e wz ⟨rfl, FZ⟩))
      all_goals
        have FE : Hid (Fr No wr wz) := FZ
        clear p0 p1 p2 p3 q0 q1 q2 q3 FZ FD KB KC
        go_wp2
        go_roundg (L.length - (j + 1))
        case measure => omega
        case rel => exact ⟨j + 1, by omega, by go_num, HFF.out.trans FE.out (fun _ k => k.elim)⟩
    · go_wp2
      go_ret
      exact ⟨rfl, HF2.out.trans HF.out (fun _ k => k.elim)⟩

theorem pack_zero : pack ([] ++ putBits 0 8) = [0] := by decide +kernel
theorem dec_zero : decI [0] = ([], 0) := by
  have h : gt [0] (0, false) 8 = 0 := by decide +kernel
  unfold decI
  rw [h]
  show (if (nx [0] (0, false) 8).2 = true then _ else _) = _
  rw [if_neg (by decide +kernel)]
  show (if ends [0] (nx [0] (0, false) 8).1 (nx [0] (0, false) 8).2 = true then _ else _) = _
  rw [if_pos (by decide +kernel)]
  rfl
theorem decIAll_closed (l : List UInt8) : decIAll (closed l) = ((decI l).1, ((decI l).2 : Int)) := by
  unfold decIAll
  rw [if_pos (code_closed l), body_closed]
theorem decIAll_nil : decIAll [] = ([], 4) := by
  unfold decIAll code
  rfl

set_option maxRecDepth 20000 in
set_option maxHeartbeats 4000000 in
theorem encodeNil_any (w : World) : Calls Try.prog 12 #[.slice none 0 0] w fun e w' => ∃ v, e = .returned v ∧ Own w' 5 v (bys (closed [0])) ∧ Fr No w w' := by
  have HP := Lib.hid (put_enc (EncAt.start w) (by simp) 0 (by omega) 8 8 rfl)
  go_enter Try.func12, Try.ntmps12
  go_wp2_with fail
  refine HP.out.mono ?_
  rintro e w1 ⟨rfl, E1⟩
  have HE := Lib.hid E1
  have HBY := Lib.hid (bytes_enc E1 (by simp [putBits_length]))
  rw [pack_zero] at HBY
  clear E1 HP
  go_wp2
  go_loopg [17] 0 (fun gk i wr => gk = 0 ∧ i = .int .i64 0 ∧ wr = w1)
  case atStart => exact ⟨rfl, rfl, rfl⟩
  case round =>
    obtain ⟨rfl, rfl, rfl⟩ := hrel
    go_wp2_with fail
    refine HBY.out.mono ?_
    rintro e w2 ⟨v2, rfl, O2, _, E2⟩
    obtain ⟨A2, c2, rfl, _, _, R2⟩ := O2.shape2
    have HC := Lib.hid (close_any (c := c2) R2 (by decide))
    have HF := Lib.hid E2.old
    rw [bys_length]
    clear O2 R2 E2 HBY
    go_wp2_with fail
    refine HC.out.mono ?_
    rintro e w3 ⟨v3, rfl, O3, _, F3⟩
    go_wp2
    go_ret
    exact ⟨v3, rfl, O3, HF.out.trans F3 (fun _ k => k.elim)⟩

set_option maxRecDepth 20000 in
set_option maxHeartbeats 4000000 in
theorem empty_law (w : World) : Calls Try.prog 5 #[] w fun e w' => e = .returned (.bool true) ∧ Fr No w w' := by
  have HE := Lib.hid (encodeNil_any w)
  go_enter Try.func5, Try.ntmps5
  go_wp2_with fail
  refine HE.out.mono ?_
  rintro e w1 ⟨v, rfl, O, F1⟩
  obtain ⟨A, c, rfl, _, hc, R⟩ := O.shape2
  rw [bys_length] at hc ⊢
  have HD := Lib.hid (decode_any (c := c) R hc (by rw [closed_length]; decide))
  rw [decIAll_closed, dec_zero] at HD
  have HF1 := Lib.hid F1
  clear O R F1 HE
  go_wp2_with fail
  refine HD.out.mono ?_
  rintro e w2 ⟨v2, M2, rfl, hM2, R2, F2⟩
  obtain ⟨A2, c2, e2, _, _, _, _⟩ := R2.own.shape
  have l2 : M2.length = 0 := by
    have := congrArg List.length hM2
    rw [List.length_map] at this
    exact this
  rw [l2] at e2
  subst e2
  have HD2 := Lib.hid (decode_any (A := none) (c := 0) (p := []) (w := w2) (Rd.nil _ _) (Nat.le_refl _) (by decide))
  rw [decIAll_nil] at HD2
  have HF2 := Lib.hid (HF1.out.trans F2 (fun _ k => k.elim))
  clear hM2 R2 F2 HD l2
  go_wp2_with fail
  refine HD2.out.mono ?_
  rintro e w3 ⟨v3, M3, rfl, _, R3, F3⟩
  obtain ⟨A3, c3, e3, _, _, _, _⟩ := R3.own.shape
  subst e3
  go_wp2
  go_ret
  exact ⟨rfl, HF2.out.trans F3 (fun _ k => k.elim)⟩

set_option maxRecDepth 20000 in
set_option maxHeartbeats 4000000 in
theorem imageReads_any {A : Option Addr} {c : Nat} {p : List UInt8} {w : World} (hl : Rd w A (bys p)) (hc : p.length ≤ c) (hA : A = none → c = 0) :
    Calls Try.prog 3 #[.slice A p.length c] w fun e w' => e = .returned (.bool true) ∧ Fr No w w' := by
  have HL := Lib.hid hl
  have HA := Lib.hid hA
  clear hl hA
  by_cases h60 : 60 < p.length
  · go_enter Try.func3, Try.ntmps3
    go_wp2_with fail
    refine (empty_law _).mono ?_
    rintro e w1 ⟨rfl, F1⟩
    go_wp2
    go_ret
    exact ⟨rfl, F1⟩
  · go_enter Try.func3, Try.ntmps3
    go_wp2_with fail
    refine (empty_law _).mono ?_
    rintro e w1 ⟨rfl, F1⟩
    go_wp2_with fail
    refine (reads_any (HL.out.no F1) hc (by omega)).mono ?_
    rintro e w2 ⟨rfl, F2⟩
    have G2 := F1.trans F2 (fun _ k => k.elim)
    go_wp2_with fail
    refine (refClose_any (HL.out.no G2) HA.out (by omega)).mono ?_
    rintro e w3 ⟨v, rfl, O, _, F3⟩
    obtain ⟨Q, d, rfl, hd, _, R⟩ := O.shape
    rw [bys_length] at hd ⊢
    have HRD := Lib.hid (reads_any R hd (by rw [closed_length]; omega))
    have G3 := G2.trans F3 (fun _ k => k.elim)
    clear O R F1 F2 F3 G2
    go_wp2_with fail
    refine HRD.out.mono ?_
    rintro e w4 ⟨rfl, F4⟩
    go_wp2
    go_ret
    exact ⟨rfl, G3.trans F4 (fun _ k => k.elim)⟩
end Go.Proofs.Ythimhjdanmejmaa
