import Derived.Test.YtlfobehnckgdkaaOpenW
import Derived.Deep.RegionWith
import Derived.Deep.DeepCutAuto
namespace Go.Proofs.Ytlfobehnckgdkaa
open Go.RowKit Go

set_option maxRecDepth 20000 in
set_option maxHeartbeats 4000000 in
theorem crcOfLaw_any (A : Option Addr) (c : Nat) (l : List UInt8) (w : World) (hr : Rd w A (bys l)) (hA : A = none → c = 0) :
    Calls Try.prog 3 #[.slice A l.length c] w fun e w' => e = .returned (.bool true) ∧ Fr No w w' := by
  have hl := hr.1
  rw [bys_length] at hl
  by_cases hb : 200 < l.length
  · clear hr
    go_enter Try.func3, Try.ntmps3
    go_wp2_with fail
    refine (known_any _).mono ?_
    rintro e w1 ⟨rfl, F1⟩
    go_wp2
    go_ret
    exact ⟨rfl, F1⟩
  · have HR := Lib.hid hr
    have HA := Lib.hid hA
    clear hr hA
    go_enter Try.func3, Try.ntmps3
    go_wp2_with fail
    refine (known_any _).mono ?_
    rintro e w1 ⟨rfl, F1⟩
    go_wp2_with fail
    refine (crcOf_any A c l _ (HR.out.no F1)).mono ?_
    rintro e w2 ⟨rfl, rfl⟩
    go_wp2_with fail
    refine (crcRef_any A c l _ (HR.out.no F1)).mono ?_
    rintro e w2 ⟨rfl, F2⟩
    have G2 := F1.trans F2 (fun _ k => k.elim)
    go_wp2_with fail
    refine (close_any (c := c) (HR.out.no G2) (by omega)).mono ?_
    rintro e w3 ⟨v3, rfl, O3, B3, F3⟩
    have G3 := G2.trans F3 (fun _ k => k.elim)
    go_wp2_with fail
    refine (refClose_any (c := c) (HR.out.no G3) HA.out (by omega)).mono ?_
    rintro e w4 ⟨v4, rfl, O4, B4, F4⟩
    have G4 := G3.trans F4 (fun _ k => k.elim)
    have O3' := O3.fr F4 (fun _ _ k => k)
    obtain ⟨A3, c3, rfl, _, _, R3⟩ := O3'.shape
    obtain ⟨A4, c4, rfl, _, _, R4⟩ := O4.shape
    rw [bys_length]
    go_wp2_with fail
    refine (refBytes_any (c := c3) (d := c4) R3 R4).mono ?_
    rintro e w5 ⟨rfl, F5⟩
    have e1 : decide (closed l = closed l) = true := decide_eq_true rfl
    rw [e1]
    go_wp2
    go_ret
    exact ⟨rfl, G4.trans F5 (fun _ k => k.elim)⟩

set_option maxRecDepth 20000 in
set_option maxHeartbeats 4000000 in
theorem crcOpens_any (A : Option Addr) (c : Nat) (l : List UInt8) (w : World) (hr : Rd w A (bys l)) (hc : l.length ≤ c) :
    Calls Try.prog 4 #[.slice A l.length c] w fun e w' => e = .returned (.bool true) ∧ Fr No w w' := by
  have hl := hr.1
  rw [bys_length] at hl
  by_cases hb : 200 < l.length
  · clear hr
    go_enter Try.func4, Try.ntmps4
    go_wp2_with fail
    refine (known_any _).mono ?_
    rintro e w1 ⟨rfl, F1⟩
    go_wp2
    go_ret
    exact ⟨rfl, F1⟩
  · have HR := Lib.hid hr
    clear hr
    go_enter Try.func4, Try.ntmps4
    go_wp2_with fail
    refine (open_any HR.out hc (by omega)).mono ?_
    rintro e w1 ⟨v1, rfl, O1, B1, F1⟩
    go_wp2_with fail
    refine (refOpen_any (HR.out.no F1) hc (by omega)).mono ?_
    rintro e w2 ⟨A2, c2, rfl, R2, F2⟩
    have G2 := F1.trans F2 (fun _ k => k.elim)
    have O1' := O1.fr F2 (fun _ _ k => k)
    obtain ⟨A1, c1, rfl, _, _, R1⟩ := O1'.shape
    rw [bys_length]
    have R1' := Lib.hid R1
    have R2' := Lib.hid R2
    clear O1 O1' R1 R2 B1
    generalize code l = cd at *
    go_wp2_with fail
    refine (known_any _).mono ?_
    rintro e w3 ⟨rfl, F3⟩
    go_wp2_with fail
    refine (refBytes_any (c := c1) (d := c2) (R1'.out.no F3) (R2'.out.no (F2.trans F3 (fun _ k => k.elim)))).mono ?_
    rintro e w4 ⟨rfl, F4⟩
    have e1 : decide (body l = body l) = true := decide_eq_true rfl
    rw [e1]
    go_wp2
    go_ret
    exact ⟨by simp, (G2.trans F3 (fun _ k => k.elim)).trans F4 (fun _ k => k.elim)⟩

theorem rd_made (w : World) (m : Nat) (h : m ≤ 9223372036854775807) : Rd (w.alloc (.cells (madeCells #[.int .u8 0] m) 5)) (some ⟨w.heap.size, 0, none⟩) (bys (List.replicate m 0)) := by
  refine ⟨by rw [bys_length]; simpa using h, fun j hj => ⟨_, rfl, ?_⟩⟩
  rw [bys_length, List.length_replicate] at hj
  rw [addr_add0, blk_cell (blk_new w _)]
  simp [madeCells, bys, List.getD_eq_getElem?_getD, hj, Nat.mod_one]

theorem Own.shape' {w : World} {e : TypeId} {v : Value} {xs : List Value} (h : Own w e v xs) : ∃ A c, v = .slice A xs.length c ∧ (A = none → c = 0) ∧ Rd w A xs := by
  obtain ⟨A, c, e, h1, _, h2⟩ := h.shape
  refine ⟨A, c, e, fun hA => ?_, h2⟩
  subst hA
  rw [e] at h
  rcases h.2 with ⟨h3, _⟩ | ⟨g, cap, cur, h3, _⟩
  · injection h3
  · injection h3 with h4; cases h4
/-- The two Joins of noughts ahead and behind. -/
theorem join_first {A : Option Addr} {c : Nat} {l : List UInt8} {w1 : World} (hr : Rd w1 A (bys l)) (hA : A = none → c = 0) (hl : l.length ≤ 100) {m : Nat} (hm : m < 40) (W : World) (q : Nat) (hF : Fr No w1 W) (hz : Rd W (some ⟨q, 0, none⟩) (bys (List.replicate m 0))) :
    Calls Try.prog 15 #[.slice (some ⟨q, 0, none⟩) m m, .slice A l.length c] W fun e w' => ∃ B d, e = .returned (.slice B (m + l.length) d) ∧ Rd w' B (bys (List.replicate m 0 ++ l)) ∧ (B = none → d = 0) ∧ Fr No w1 w' ∧ Fr No W w' := by
  have := join_any (c := m) (d := c) hz (hr.no hF) (fun h => by cases h) hA (by rw [List.length_replicate]; omega)
  rw [List.length_replicate] at this
  refine this.mono ?_
  rintro e w' ⟨v, rfl, O, _, F⟩
  obtain ⟨B, d, rfl, h1, h2⟩ := O.shape'
  exact ⟨B, d, by simp [bys_length], h2, h1, hF.trans F (fun _ k => k.elim), F⟩
theorem join_second {B : Option Addr} {d : Nat} {p : List UInt8} {k : Nat} (hk : p.length = k) (hl : k ≤ 140) {n : Nat} (hn : n < 40) (W : World) (q : Nat) (hr : Rd W B (bys p)) (hB : B = none → d = 0) (hz : Rd W (some ⟨q, 0, none⟩) (bys (List.replicate n 0))) :
    Calls Try.prog 15 #[.slice B k d, .slice (some ⟨q, 0, none⟩) n n] W fun e w' => ∃ v, e = .returned v ∧ Own w' 5 v (bys (p ++ List.replicate n 0)) ∧ Fr No W w' := by
  have := join_any (c := d) (d := n) hr hz hB (fun h => by cases h) (by rw [List.length_replicate]; omega)
  rw [List.length_replicate, hk] at this
  refine this.mono ?_
  rintro e w' ⟨v, rfl, O, _, F⟩
  exact ⟨v, rfl, O, F⟩

set_option maxRecDepth 20000 in
set_option maxHeartbeats 2000000 in
theorem crcNoughts_any (A : Option Addr) (c : Nat) (l : List UInt8) (a b : Int) (ha : 0 ≤ a ∧ a ≤ 255) (hb0 : 0 ≤ b ∧ b ≤ 255) (w : World) (hr : Rd w A (bys l)) (hA : A = none → c = 0) :
    Calls Try.prog 6 #[.slice A l.length c, .int .u8 a, .int .u8 b] w fun e w' => e = .returned (.bool true) ∧ Fr No w w' := by
  have hl := hr.1
  rw [bys_length] at hl
  have HR := Lib.hid hr
  have HA := Lib.hid hA
  clear hr hA
  go_enter Try.func6, Try.ntmps6
  go_wp2_with fail
  refine (known_any _).mono ?_
  rintro e w1 ⟨rfl, F1⟩
  by_cases hb : 100 < l.length
  · go_wp2_with fail
    refine (known_any _).mono ?_
    rintro e w2 ⟨rfl, F2⟩
    go_wp2
    go_ret
    exact ⟨rfl, F1.trans F2 (fun _ k => k.elim)⟩
  · obtain ⟨m, hm⟩ := Int.eq_ofNat_of_zero_le (show 0 ≤ a.tmod 40 by rw [Int.tmod_eq_emod_of_nonneg ha.1]; omega)
    obtain ⟨n, hn⟩ := Int.eq_ofNat_of_zero_le (show 0 ≤ b.tmod 40 by rw [Int.tmod_eq_emod_of_nonneg hb0.1]; omega)
    have hm40 : m < 40 := by rw [Int.tmod_eq_emod_of_nonneg ha.1] at hm; omega
    have hn40 : n < 40 := by rw [Int.tmod_eq_emod_of_nonneg hb0.1] at hn; omega
    obtain ⟨M1, hM1⟩ : ∃ M1 : World → World, ∀ w, M1 w = w.alloc (.cells (madeCells #[.int .u8 0] m) 5) := ⟨_, fun _ => rfl⟩
    obtain ⟨M2, hM2⟩ : ∃ M2 : World → World, ∀ w, M2 w = w.alloc (.cells (madeCells #[.int .u8 0] n) 5) := ⟨_, fun _ => rfl⟩
    have mk1 := run_make_row' (P := Try.prog) 22 5 (.int .u8 0) 1 Try.underlying22 infoU8 rfl .i64 .i64 m (by omega) (by omega)
    have mk2 := run_make_row' (P := Try.prog) 22 5 (.int .u8 0) 1 Try.underlying22 infoU8 rfl .i64 .i64 n (by omega) (by omega)
    have z1 : ∀ W : World, Rd (M1 W) (some ⟨W.heap.size, 0, none⟩) (bys (List.replicate m 0)) := fun W => by rw [hM1]; exact rd_made W m (by omega)
    have z2 : ∀ W : World, Rd (M2 W) (some ⟨W.heap.size, 0, none⟩) (bys (List.replicate n 0)) := fun W => by rw [hM2]; exact rd_made W n (by omega)
    have g1 : ∀ W : World, Fr No W (M1 W) := fun W => by rw [hM1]; exact (Fr.refl No W).alloc _
    have g2 : ∀ W : World, Fr No W (M2 W) := fun W => by rw [hM2]; exact (Fr.refl No W).alloc _
    simp only [← hM1] at mk1
    simp only [← hM2] at mk2
    clear hM1 hM2
    have w1' : IntKind.i64.wrap (m : Int) = m := by rw [IntKind.wrap_i64]; omega
    have w2' : IntKind.i64.wrap (n : Int) = n := by rw [IntKind.wrap_i64]; omega
    go_upto_region 3 with (fail)
    go_cut [7] (fun s wc => ∃ v, s = v ∧ Own wc 5 v (bys (List.replicate m 0 ++ l ++ List.replicate n 0)) ∧ Fr No w wc)
    case first =>
      have Z1 := Lib.hid z1
      have Z2 := Lib.hid z2
      have J1 := Lib.hid (fun W q F R => join_first (c := c) (HR.out.no F1) HA.out (by omega) hm40 W q F R)
      have J2 := Lib.hid (fun B d W q R HB Z => join_second (B := B) (d := d) (p := List.replicate m 0 ++ l) (k := m + l.length) (by simp) (by omega) hn40 W q R HB Z)
      clear z1 z2
      have JA := Lib.hid (J1.out (M1 w1.drew) w1.heap.size ((Fr.refl No w1).drew.trans (g1 _) (fun _ k => k.elim)) (Z1.out w1.drew))
      have JB := Lib.hid (J1.out (M2 (M1 w1.drew)) w1.heap.size (((Fr.refl No w1).drew.trans (g1 _) (fun _ k => k.elim)).trans (g2 _) (fun _ k => k.elim)) ((Z1.out w1.drew).no (g2 _)))
      have JC := Lib.hid (J1.out (M1 (M2 w1.drew)) (M2 w1.drew).heap.size (((Fr.refl No w1).drew.trans (g2 _) (fun _ k => k.elim)).trans (g1 _) (fun _ k => k.elim)) (Z1.out (M2 w1.drew)))
      clear J1
      have ZC : Hid (Rd (M2 w1.drew) (some ⟨w1.heap.size, 0, none⟩) (bys (List.replicate n 0))) := Z2.out w1.drew
      go_region_with (go_at_call 15; first
        | (first
             | with_reducible refine (J2.out B1 d1 (M2 W1) W1.heap.size (R1'.out.no (g2 W1)) HB1'.out (Z2.out W1)).mono ?_
             | with_reducible refine (J2.out B1 d1 W1 (M1 w1.drew).heap.size R1'.out HB1'.out ((Z2.out (M1 w1.drew)).no G1')).mono ?_
             | with_reducible refine (J2.out B1 d1 W1 w1.heap.size R1'.out HB1'.out ((ZC.out.no (g1 _)).no G1')).mono ?_
           rintro e W2 ⟨v2, rfl, O2, G2⟩)
        | (first | with_reducible refine JA.out.mono ?_ | with_reducible refine JB.out.mono ?_ | with_reducible refine JC.out.mono ?_
           rintro e W1 ⟨B1, d1, rfl, R1, HB1, G1, G1'⟩
           have R1' := Lib.hid R1
           have HB1' := Lib.hid HB1
           clear R1 HB1))
      all_goals (go_wp2_with fail; go_meet)
      all_goals exact ⟨v2, rfl, O2, by first | exact (F1.trans G1 (fun _ k => k.elim)).trans G2 (fun _ k => k.elim) | exact ((F1.trans G1 (fun _ k => k.elim)).trans (g2 _) (fun _ k => k.elim)).trans G2 (fun _ k => k.elim)⟩
    case rest =>
      obtain ⟨v, rfl, O, F⟩ := hcut
      obtain ⟨q, hq⟩ : ∃ q, List.replicate m 0 ++ l ++ List.replicate n (0 : UInt8) = q := ⟨_, rfl⟩
      rw [hq] at O
      have hql : q.length ≤ 200 := by rw [← hq]; simp; omega
      obtain ⟨B, d, rfl, _, _, R⟩ := O.shape
      rw [bys_length]
      have R' := Lib.hid R
      clear R O hq z1 z2 g1 g2 mk1 mk2 w1' w2' hm hn
      go_wp2_with fail
      refine (crcOf_any B d q _ R'.out).mono ?_
      rintro e w2 ⟨rfl, rfl⟩
      go_wp2_with fail
      refine (crcRef_any B d q _ R'.out).mono ?_
      rintro e w2 ⟨rfl, F2⟩
      go_wp2_with fail
      refine (close_any (c := d) (R'.out.no F2) (by omega)).mono ?_
      rintro e w3 ⟨v3, rfl, O3, B3, F3⟩
      obtain ⟨A3, c3, rfl, _, _, R3⟩ := O3.shape
      rw [bys_length, closed_length]
      go_wp2
      go_ret
      exact ⟨by simp, (F.trans F2 (fun _ k => k.elim)).trans F3 (fun _ k => k.elim)⟩
end Go.Proofs.Ytlfobehnckgdkaa
