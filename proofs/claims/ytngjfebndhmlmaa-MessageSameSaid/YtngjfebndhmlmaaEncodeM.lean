import Derived.Test.YtngjfebndhmlmaaEncM
import Derived.Test.YtngjfebndhmlmaaReadM
import Derived.Test.YtngjfebndhmlmaaOpenW
import Derived.Deep.RegionHeld3
namespace Go.Proofs.Ytngjfebndhmlmaa
open Go.RowKit Go

/-- A message's bits. -/
def mbits (m : Msg) : List Bool := [] ++ putBits m.k 3 ++ putBits (u64 m.t) 6 ++ putBits (u64 m.tm) 25 ++ (if m.k = 3 then putBits (u64 m.d) 1 ++ putBits (u64 m.a) 14 ++ [m.wh] else []) ++ (if m.k = 3 ∨ m.k = 6 then tbits m.tr else [])

set_option maxRecDepth 20000 in
set_option maxHeartbeats 4000000 in
theorem encode_any {m : Msg} {A : Option Addr} {c : Nat} {w : World} (hR : Rd w A (ints .i64 m.tr)) (hk : m.k < 256) (htr : m.tr.length ≤ 1000) :
    Calls Try.prog 16 #[mval m A c] w fun e w' => ∃ v, e = .returned v ∧ Own w' 5 v (bys (closed (pack (mbits m)))) ∧ Hid (∀ k, v.ownBlock = some k → w.heap.size ≤ k) ∧ Fr No w w' := by
  obtain ⟨k, t, tm, d, a, wh, tr⟩ := m
  unfold mval
  simp only at hR hk htr ⊢
  obtain ⟨mb, hmb⟩ : ∃ mb, mbits ⟨k, t, tm, d, a, wh, tr⟩ = mb := ⟨_, rfl⟩
  rw [hmb]
  have hk8 : k < 18446744073709551616 := by omega
  obtain ⟨w0, hw0⟩ : ∃ w0, w.alloc (.cells #[.int .u8 (k : Int), .int .i64 t, .int .i64 tm, .int .i64 d, .int .i64 a, .bool wh, .slice A tr.length c] 34) = w0 := ⟨_, rfl⟩
  have B0 : w0.heap[w.heap.size]? = some (.cells #[.int .u8 (k : Int), .int .i64 t, .int .i64 tm, .int .i64 d, .int .i64 a, .bool wh, .slice A tr.length c] 34 (0, 0)) := by rw [← hw0]; exact blk_new _ _
  have F0 : Fr No w w0 := by rw [← hw0]; exact (Fr.refl No w).alloc _
  have R0 := hR.no F0
  obtain ⟨g, hg⟩ : ∃ g, w.heap.size = g := ⟨_, rfl⟩
  have hs0 : w0.heap.size = g + 1 := by rw [← hw0, ← hg]; simp
  rw [hg] at B0
  have ek : IntKind.u64.wrap (k : Int) = (k : Int) := by rw [IntKind.wrap_u64]; omega
  have et := u64_wrap t
  have etm := u64_wrap tm
  have ed := u64_wrap d
  have ea := u64_wrap a
  have lt := u64_lt t
  have ltm := u64_lt tm
  have ld := u64_lt d
  have la := u64_lt a
  obtain ⟨T, hT⟩ : ∃ T, u64 t = T := ⟨_, rfl⟩
  obtain ⟨M, hM⟩ : ∃ M, u64 tm = M := ⟨_, rfl⟩
  obtain ⟨D, hD⟩ : ∃ D, u64 d = D := ⟨_, rfl⟩
  obtain ⟨Q, hQ⟩ : ∃ Q, u64 a = Q := ⟨_, rfl⟩
  rw [hT] at et lt
  rw [hM] at etm ltm
  rw [hD] at ed ld
  rw [hQ] at ea la
  unfold mbits at hmb
  simp only [hT, hM, hD, hQ] at hmb
  have HMB := Lib.hid hmb
  have KC : Hid (∀ W, Fr No w0 W → (W.cell? ⟨g, 0, none⟩ = some (.int .u8 (k : Int)) ∧ W.cell? ⟨g, 1, none⟩ = some (.int .i64 t) ∧ W.cell? ⟨g, 2, none⟩ = some (.int .i64 tm)) ∧ (W.cell? ⟨g, 3, none⟩ = some (.int .i64 d) ∧ W.cell? ⟨g, 4, none⟩ = some (.int .i64 a) ∧ W.cell? ⟨g, 5, none⟩ = some (.bool wh)) ∧ W.cell? ⟨g, 6, none⟩ = some (.slice A tr.length c)) := by
    show ∀ W, _
    intro W hW
    obtain ⟨q0, q1, q2, q3, q4, q5, q6, _⟩ := seven (hW.heap B0 (fun k => k))
    exact ⟨⟨q0, q1, q2⟩, ⟨q3, q4, q5⟩, q6⟩
  have HF0 := Lib.hid F0
  have HR0 := Lib.hid R0
  have H0 := Lib.hid hw0
  clear hR F0 R0 B0 hT hM hD hQ hmb
  have P1 : Hid (∀ W, EncAt w0 W (g + 1) ([]) → Calls Try.prog 28 #[.pointer (some ⟨g + 1, 0, none⟩), .int .u64 (k : Int), .int .i64 3] W fun e w' => e = .returned (.pointer (some ⟨g + 1, 0, none⟩)) ∧ EncAt w0 w' (g + 1) ([] ++ putBits k 3)) := by
    show ∀ W, _
    exact fun W h => put_enc h (by simp) k (by omega) 3 3 rfl
  have P2 : Hid (∀ W, EncAt w0 W (g + 1) ([] ++ putBits k 3) → Calls Try.prog 28 #[.pointer (some ⟨g + 1, 0, none⟩), .int .u64 (T : Int), .int .i64 6] W fun e w' => e = .returned (.pointer (some ⟨g + 1, 0, none⟩)) ∧ EncAt w0 w' (g + 1) ([] ++ putBits k 3 ++ putBits T 6)) := by
    show ∀ W, _
    exact fun W h => put_enc h (by simp only [List.length_append, putBits_length, List.length_nil]; omega) T (by omega) 6 6 rfl
  have P3 : Hid (∀ W, EncAt w0 W (g + 1) ([] ++ putBits k 3 ++ putBits T 6) → Calls Try.prog 28 #[.pointer (some ⟨g + 1, 0, none⟩), .int .u64 (M : Int), .int .i64 25] W fun e w' => e = .returned (.pointer (some ⟨g + 1, 0, none⟩)) ∧ EncAt w0 w' (g + 1) ([] ++ putBits k 3 ++ putBits T 6 ++ putBits M 25)) := by
    show ∀ W, _
    exact fun W h => put_enc h (by simp only [List.length_append, putBits_length, List.length_nil]; omega) M (by omega) 25 25 rfl
  have P4 : Hid (∀ W, EncAt w0 W (g + 1) ([] ++ putBits k 3 ++ putBits T 6 ++ putBits M 25) → Calls Try.prog 28 #[.pointer (some ⟨g + 1, 0, none⟩), .int .u64 (D : Int), .int .i64 1] W fun e w' => e = .returned (.pointer (some ⟨g + 1, 0, none⟩)) ∧ EncAt w0 w' (g + 1) ([] ++ putBits k 3 ++ putBits T 6 ++ putBits M 25 ++ putBits D 1)) := by
    show ∀ W, _
    exact fun W h => put_enc h (by simp only [List.length_append, putBits_length, List.length_nil]; omega) D (by omega) 1 1 rfl
  have P5 : Hid (∀ W, EncAt w0 W (g + 1) ([] ++ putBits k 3 ++ putBits T 6 ++ putBits M 25 ++ putBits D 1) → Calls Try.prog 28 #[.pointer (some ⟨g + 1, 0, none⟩), .int .u64 (Q : Int), .int .i64 14] W fun e w' => e = .returned (.pointer (some ⟨g + 1, 0, none⟩)) ∧ EncAt w0 w' (g + 1) ([] ++ putBits k 3 ++ putBits T 6 ++ putBits M 25 ++ putBits D 1 ++ putBits Q 14)) := by
    show ∀ W, _
    exact fun W h => put_enc h (by simp only [List.length_append, putBits_length, List.length_nil]; omega) Q (by omega) 14 14 rfl
  have P6 : Hid (∀ W, EncAt w0 W (g + 1) ([] ++ putBits k 3 ++ putBits T 6 ++ putBits M 25 ++ putBits D 1 ++ putBits Q 14) → Calls Try.prog 29 #[.pointer (some ⟨g + 1, 0, none⟩), .bool wh] W fun e w' => e = .returned (.pointer (some ⟨g + 1, 0, none⟩)) ∧ EncAt w0 w' (g + 1) ([] ++ putBits k 3 ++ putBits T 6 ++ putBits M 25 ++ putBits D 1 ++ putBits Q 14 ++ [wh])) := by
    show ∀ W, _
    exact fun W h => flag_enc h (by simp only [List.length_append, putBits_length, List.length_nil]; omega) wh
  have S0 := EncAt.start w0
  rw [hs0] at S0
  have HS0 := Lib.hid S0.drew
  have c0 := KC.out _ S0.old
  have C1 := c0.1
  obtain ⟨p0, p1, p2⟩ := c0.1
  clear S0 c0
  go_enter Try.func16, Try.ntmps16
  go_upto_region 2 with (fail)
  go_region_held3 (fun w' => w'.cell? ⟨g, 0, none⟩ = some (.int .u8 (k : Int)) ∧ w'.cell? ⟨g, 1, none⟩ = some (.int .i64 t) ∧ w'.cell? ⟨g, 2, none⟩ = some (.int .i64 tm))
    (first | go_keep | exact (KC.out _ (EncAt.old (by assumption))).1)
    (first
      | (go_at_call 28; refine (P3.out _ E2).mono ?_; rintro e w3 ⟨rfl, E3⟩)
      | (go_at_call 28; refine (P2.out _ E1).mono ?_; rintro e w2 ⟨rfl, E2⟩)
      | (go_at_call 28; refine (P1.out _ HS0.out).mono ?_; rintro e w1 ⟨rfl, E1⟩))
  clear p0 p1 p2 C1 HS0 P1 P2 P3
  have q0 := (KC.out _ E3.old).1.1
  have HE3 := Lib.hid E3
  clear E1 E2 E3
  by_cases hk3 : k = 3
  · subst hk3
    obtain ⟨q3, q4, q5⟩ := (KC.out _ HE3.out.old).2.1
    have HD3 := Lib.hid HE3.out.drew
    go_upto_region 5 with (fail)
    go_region_held3 (fun w' => w'.cell? ⟨g, 3, none⟩ = some (.int .i64 d) ∧ w'.cell? ⟨g, 4, none⟩ = some (.int .i64 a) ∧ w'.cell? ⟨g, 5, none⟩ = some (.bool wh))
      (first | go_keep | exact (KC.out _ (EncAt.old (by assumption))).2.1)
      (first
        | (go_at_call 29; refine (P6.out _ E5).mono ?_; rintro e w6 ⟨rfl, E6⟩)
        | (go_at_call 28; refine (P5.out _ E4).mono ?_; rintro e w5 ⟨rfl, E5⟩)
        | (go_at_call 28; refine (P4.out _ HD3.out).mono ?_; rintro e w4 ⟨rfl, E4⟩))
    have HE6 := Lib.hid E6
    clear E4 E5 E6 q0 q3 q4 q5 HE3 HD3 P4 P5 P6
    have HT := Lib.hid (trail_any (c := c) HE6.out HR0.out (by simp only [List.length_append, putBits_length, List.length_nil, List.length_cons]; omega) (by omega))
    have q6 := (KC.out _ HE6.out.old).2.2
    go_wp2_with fail
    refine HT.out.mono ?_
    rintro e w7 ⟨rfl, E7⟩
    have hmb : [] ++ putBits 3 3 ++ putBits T 6 ++ putBits M 25 ++ putBits D 1 ++ putBits Q 14 ++ [wh] ++ tbits tr = mb := by rw [← HMB.out]; simp [List.append_assoc]
    rw [hmb] at E7
    have HE := Lib.hid E7
    clear E7 HT q6

    have hbl : Hid (mb.length ≤ 10000) := by show mb.length ≤ 10000; rw [← hmb]; simp only [List.length_append, putBits_length, List.length_nil, List.length_cons, tbits_length]; omega
    have HBY := Lib.hid (bytes_enc HE.out (by have := hbl.out; omega))
    clear hmb
    go_wp2_with fail
    refine HBY.out.mono ?_
    rintro e wy ⟨v1, rfl, O1, _, E9⟩
    obtain ⟨A1, c1, rfl, hA1, _, R1⟩ := O1.shape2
    rw [bys_length]
    have HCL := Lib.hid (close_any (c := c1) R1 (by rw [pack_length]; have := hbl.out; omega))
    have HF9 := Lib.hid (HF0.out.trans E9.old (fun _ k => k.elim))
    clear O1 R1 E9 HE HBY hA1
    go_wp2_with fail
    refine HCL.out.mono ?_
    rintro e wz ⟨v2, rfl, O2, N2, FZ⟩
    go_wp2
    go_ret
    exact ⟨v2, rfl, O2, (by show ∀ k, _; exact fun k hk => Nat.le_trans HF9.out.size (N2.out k hk)), HF9.out.trans FZ (fun _ k => k.elim)⟩

  by_cases hk6 : k = 6
  · subst hk6
    clear P4 P5 P6
    have HT := Lib.hid (trail_any (c := c) HE3.out HR0.out (by simp only [List.length_append, putBits_length, List.length_nil]; omega) (by omega))
    have q6 := (KC.out _ HE3.out.old).2.2
    go_wp2_with fail
    refine HT.out.mono ?_
    rintro e w7 ⟨rfl, E7⟩
    have hmb : [] ++ putBits 6 3 ++ putBits T 6 ++ putBits M 25 ++ tbits tr = mb := by rw [← HMB.out]; simp [List.append_assoc]
    rw [hmb] at E7
    have HE := Lib.hid E7
    clear E7 HT q6
    clear q0

    have hbl : Hid (mb.length ≤ 10000) := by show mb.length ≤ 10000; rw [← hmb]; simp only [List.length_append, putBits_length, List.length_nil, tbits_length]; omega
    have HBY := Lib.hid (bytes_enc HE.out (by have := hbl.out; omega))
    clear hmb
    go_wp2_with fail
    refine HBY.out.mono ?_
    rintro e wy ⟨v1, rfl, O1, _, E9⟩
    obtain ⟨A1, c1, rfl, hA1, _, R1⟩ := O1.shape2
    rw [bys_length]
    have HCL := Lib.hid (close_any (c := c1) R1 (by rw [pack_length]; have := hbl.out; omega))
    have HF9 := Lib.hid (HF0.out.trans E9.old (fun _ k => k.elim))
    clear O1 R1 E9 HE HBY hA1
    go_wp2_with fail
    refine HCL.out.mono ?_
    rintro e wz ⟨v2, rfl, O2, N2, FZ⟩
    go_wp2
    go_ret
    exact ⟨v2, rfl, O2, (by show ∀ k, _; exact fun k hk => Nat.le_trans HF9.out.size (N2.out k hk)), HF9.out.trans FZ (fun _ k => k.elim)⟩

  have hk3i : ¬ (k : Int) = 3 := by omega
  have hk6i : ¬ (k : Int) = 6 := by omega
  have hmb : [] ++ putBits k 3 ++ putBits T 6 ++ putBits M 25 = mb := by rw [← HMB.out]; simp [hk3, hk6]
  have E7 := HE3.out
  rw [hmb] at E7
  have HE := Lib.hid E7
  clear E7 P4 P5 P6

  have hbl : Hid (mb.length ≤ 10000) := by show mb.length ≤ 10000; rw [← hmb]; simp only [List.length_append, putBits_length, List.length_nil]; omega
  have HBY := Lib.hid (bytes_enc HE.out (by have := hbl.out; omega))
  clear hmb
  go_wp2_with fail
  refine HBY.out.mono ?_
  rintro e wy ⟨v1, rfl, O1, _, E9⟩
  obtain ⟨A1, c1, rfl, hA1, _, R1⟩ := O1.shape2
  rw [bys_length]
  have HCL := Lib.hid (close_any (c := c1) R1 (by rw [pack_length]; have := hbl.out; omega))
  have HF9 := Lib.hid (HF0.out.trans E9.old (fun _ k => k.elim))
  clear O1 R1 E9 HE HBY hA1
  go_wp2_with fail
  refine HCL.out.mono ?_
  rintro e wz ⟨v2, rfl, O2, N2, FZ⟩
  go_wp2
  go_ret
  exact ⟨v2, rfl, O2, (by show ∀ k, _; exact fun k hk => Nat.le_trans HF9.out.size (N2.out k hk)), HF9.out.trans FZ (fun _ k => k.elim)⟩

set_option maxRecDepth 20000 in
set_option maxHeartbeats 4000000 in
theorem refEncode_any {m : Msg} {A : Option Addr} {c : Nat} {w : World} (hR : Rd w A (ints .i64 m.tr)) (hk : m.k < 256) (htr : m.tr.length ≤ 1000) :
    Calls Try.prog 13 #[mval m A c] w fun e w' => ∃ v, e = .returned v ∧ Own w' 5 v (bys (closed (pack (mbits m)))) ∧ Hid (∀ k, v.ownBlock = some k → w.heap.size ≤ k) ∧ Fr No w w' := by
  obtain ⟨k, t, tm, d, a, wh, tr⟩ := m
  unfold mval
  simp only at hR hk htr ⊢
  obtain ⟨mb, hmb⟩ : ∃ mb, mbits ⟨k, t, tm, d, a, wh, tr⟩ = mb := ⟨_, rfl⟩
  rw [hmb]
  have hk8 : k < 18446744073709551616 := by omega
  obtain ⟨w0, hw0⟩ : ∃ w0, w.alloc (.cells #[.int .u8 (k : Int), .int .i64 t, .int .i64 tm, .int .i64 d, .int .i64 a, .bool wh, .slice A tr.length c] 34) = w0 := ⟨_, rfl⟩
  have B0 : w0.heap[w.heap.size]? = some (.cells #[.int .u8 (k : Int), .int .i64 t, .int .i64 tm, .int .i64 d, .int .i64 a, .bool wh, .slice A tr.length c] 34 (0, 0)) := by rw [← hw0]; exact blk_new _ _
  have F0 : Fr No w w0 := by rw [← hw0]; exact (Fr.refl No w).alloc _
  have R0 := hR.no F0
  obtain ⟨g, hg⟩ : ∃ g, w.heap.size = g := ⟨_, rfl⟩
  have hs0 : w0.heap.size = g + 1 := by rw [← hw0, ← hg]; simp
  rw [hg] at B0
  have ek : IntKind.u64.wrap (k : Int) = (k : Int) := by rw [IntKind.wrap_u64]; omega
  have et := u64_wrap t
  have etm := u64_wrap tm
  have ed := u64_wrap d
  have ea := u64_wrap a
  have lt := u64_lt t
  have ltm := u64_lt tm
  have ld := u64_lt d
  have la := u64_lt a
  obtain ⟨T, hT⟩ : ∃ T, u64 t = T := ⟨_, rfl⟩
  obtain ⟨M, hM⟩ : ∃ M, u64 tm = M := ⟨_, rfl⟩
  obtain ⟨D, hD⟩ : ∃ D, u64 d = D := ⟨_, rfl⟩
  obtain ⟨Q, hQ⟩ : ∃ Q, u64 a = Q := ⟨_, rfl⟩
  rw [hT] at et lt
  rw [hM] at etm ltm
  rw [hD] at ed ld
  rw [hQ] at ea la
  unfold mbits at hmb
  simp only [hT, hM, hD, hQ] at hmb
  have HMB := Lib.hid hmb
  have KC : Hid (∀ W, Fr No w0 W → (W.cell? ⟨g, 0, none⟩ = some (.int .u8 (k : Int)) ∧ W.cell? ⟨g, 1, none⟩ = some (.int .i64 t) ∧ W.cell? ⟨g, 2, none⟩ = some (.int .i64 tm)) ∧ (W.cell? ⟨g, 3, none⟩ = some (.int .i64 d) ∧ W.cell? ⟨g, 4, none⟩ = some (.int .i64 a) ∧ W.cell? ⟨g, 5, none⟩ = some (.bool wh)) ∧ W.cell? ⟨g, 6, none⟩ = some (.slice A tr.length c)) := by
    show ∀ W, _
    intro W hW
    obtain ⟨q0, q1, q2, q3, q4, q5, q6, _⟩ := seven (hW.heap B0 (fun k => k))
    exact ⟨⟨q0, q1, q2⟩, ⟨q3, q4, q5⟩, q6⟩
  have HF0 := Lib.hid F0
  have HR0 := Lib.hid R0
  have H0 := Lib.hid hw0
  clear hR F0 R0 B0 hT hM hD hQ hmb
  have HE0 := Lib.hid (BitsAt.start w0)
  go_enter Try.func13, Try.ntmps13
  have HP := Lib.hid (put_bitsAt HE0.out (by simp) k 3 3 rfl (by omega))
  have q := (KC.out _ HE0.out.2.1).1.1
  go_wp2_with fail
  refine HP.out.mono ?_
  rintro e wn ⟨vn, rfl, EN⟩
  have HE1 := Lib.hid EN
  clear EN HP q HE0
  have HP := Lib.hid (put_bitsAt HE1.out (by simp only [List.length_append, putBits_length, List.length_nil]; omega) T 6 6 rfl (by omega))
  have q := (KC.out _ HE1.out.2.1).1.2.1
  go_wp2_with fail
  refine HP.out.mono ?_
  rintro e wn ⟨vn, rfl, EN⟩
  have HE2 := Lib.hid EN
  clear EN HP q HE1
  have HP := Lib.hid (put_bitsAt HE2.out (by simp only [List.length_append, putBits_length, List.length_nil]; omega) M 25 25 rfl (by omega))
  have q := (KC.out _ HE2.out.2.1).1.2.2
  go_wp2_with fail
  refine HP.out.mono ?_
  rintro e wn ⟨vn, rfl, EN⟩
  have HE3 := Lib.hid EN
  clear EN HP q HE2
  have q0 := (KC.out _ HE3.out.2.1).1.1
  by_cases hk3 : k = 3
  · subst hk3
    have HP := Lib.hid (put_bitsAt HE3.out (by simp only [List.length_append, putBits_length, List.length_nil]; omega) D 1 1 rfl (by omega))
    have q := (KC.out _ HE3.out.2.1).2.1.1
    go_wp2_with fail
    refine HP.out.mono ?_
    rintro e wn ⟨vn, rfl, EN⟩
    have HE4 := Lib.hid EN
    clear EN HP q HE3

    have HP := Lib.hid (put_bitsAt HE4.out (by simp only [List.length_append, putBits_length, List.length_nil]; omega) Q 14 14 rfl (by omega))
    have q := (KC.out _ HE4.out.2.1).2.1.2.1
    go_wp2_with fail
    refine HP.out.mono ?_
    rintro e wn ⟨vn, rfl, EN⟩
    have HE5 := Lib.hid EN
    clear EN HP q HE4

    have q := (KC.out _ HE5.out.2.1).2.1.2.2
    go_wp2_with (at_builtin; go_loud (refine own_append rfl (.tmp 31) (.tmp 34) 48 4 (.bool false) 1 rfl Try.underlying48 infoBool rfl (by decide) _ (bls ([] ++ putBits 3 3 ++ putBits T 6 ++ putBits M 25 ++ putBits D 1 ++ putBits Q 14)) (.bool wh) _ rfl rfl rfl rfl HE5.out.1 ?hl ?_))
    case hl => rw [bls_length]; simp only [List.length_append, putBits_length, List.length_nil]; omega
    intro v4 w4 o4 f4 a4
    have HE6 := Lib.hid (HE5.out.snoc o4 f4 a4)
    clear o4 f4 a4 q q0 HE5

    have HT := Lib.hid (refTrail_any (c := c) HE6.out HR0.out (by simp only [List.length_append, putBits_length, List.length_nil, List.length_cons]; omega) (by omega))
    obtain ⟨⟨q0, _, _⟩, _, q6⟩ := KC.out _ HE6.out.2.1
    go_wp2_with fail
    refine HT.out.mono ?_
    rintro e w7 ⟨v7, rfl, E7⟩
    have hmb : [] ++ putBits 3 3 ++ putBits T 6 ++ putBits M 25 ++ putBits D 1 ++ putBits Q 14 ++ [wh] ++ tbits tr = mb := by rw [← HMB.out]; simp [List.append_assoc]
    rw [hmb] at E7
    have HE := Lib.hid E7
    clear E7 HT q0 q6

    have hbl : Hid (mb.length ≤ 10000) := by show mb.length ≤ 10000; rw [← hmb]; simp only [List.length_append, putBits_length, List.length_nil, List.length_cons, tbits_length]; omega
    have HBY := Lib.hid (pack_bitsAt HE.out (by have := hbl.out; omega))
    clear hmb
    go_wp2_with fail
    refine HBY.out.mono ?_
    rintro e wy ⟨v1, rfl, O1, _, E9⟩
    obtain ⟨A1, c1, rfl, hA1, _, R1⟩ := O1.shape2
    rw [bys_length]
    have HCL := Lib.hid (refClose_any (c := c1) R1 hA1 (by rw [pack_length]; have := hbl.out; omega))
    have HF9 := Lib.hid (HF0.out.trans E9.2.1 (fun _ k => k.elim))
    clear O1 R1 E9 HE HBY hA1
    go_wp2_with fail
    refine HCL.out.mono ?_
    rintro e wz ⟨v2, rfl, O2, N2, FZ⟩
    go_wp2
    go_ret
    exact ⟨v2, rfl, O2, (by show ∀ k, _; exact fun k hk => Nat.le_trans HF9.out.size (N2.out k hk)), HF9.out.trans FZ (fun _ k => k.elim)⟩

  by_cases hk6 : k = 6
  · subst hk6
    clear q0
    have HT := Lib.hid (refTrail_any (c := c) HE3.out HR0.out (by simp only [List.length_append, putBits_length, List.length_nil]; omega) (by omega))
    obtain ⟨⟨q0, _, _⟩, _, q6⟩ := KC.out _ HE3.out.2.1
    go_wp2_with fail
    refine HT.out.mono ?_
    rintro e w7 ⟨v7, rfl, E7⟩
    have hmb : [] ++ putBits 6 3 ++ putBits T 6 ++ putBits M 25 ++ tbits tr = mb := by rw [← HMB.out]; simp [List.append_assoc]
    rw [hmb] at E7
    have HE := Lib.hid E7
    clear E7 HT q0 q6

    have hbl : Hid (mb.length ≤ 10000) := by show mb.length ≤ 10000; rw [← hmb]; simp only [List.length_append, putBits_length, List.length_nil, tbits_length]; omega
    have HBY := Lib.hid (pack_bitsAt HE.out (by have := hbl.out; omega))
    clear hmb
    go_wp2_with fail
    refine HBY.out.mono ?_
    rintro e wy ⟨v1, rfl, O1, _, E9⟩
    obtain ⟨A1, c1, rfl, hA1, _, R1⟩ := O1.shape2
    rw [bys_length]
    have HCL := Lib.hid (refClose_any (c := c1) R1 hA1 (by rw [pack_length]; have := hbl.out; omega))
    have HF9 := Lib.hid (HF0.out.trans E9.2.1 (fun _ k => k.elim))
    clear O1 R1 E9 HE HBY hA1
    go_wp2_with fail
    refine HCL.out.mono ?_
    rintro e wz ⟨v2, rfl, O2, N2, FZ⟩
    go_wp2
    go_ret
    exact ⟨v2, rfl, O2, (by show ∀ k, _; exact fun k hk => Nat.le_trans HF9.out.size (N2.out k hk)), HF9.out.trans FZ (fun _ k => k.elim)⟩

  have hk3i : ¬ (k : Int) = 3 := by omega
  have hk6i : ¬ (k : Int) = 6 := by omega
  have hmb : [] ++ putBits k 3 ++ putBits T 6 ++ putBits M 25 = mb := by rw [← HMB.out]; simp [hk3, hk6]
  have E7 := HE3.out
  rw [hmb] at E7
  have HE := Lib.hid E7
  clear E7

  have hbl : Hid (mb.length ≤ 10000) := by show mb.length ≤ 10000; rw [← hmb]; simp only [List.length_append, putBits_length, List.length_nil]; omega
  have HBY := Lib.hid (pack_bitsAt HE.out (by have := hbl.out; omega))
  clear hmb
  go_wp2_with fail
  refine HBY.out.mono ?_
  rintro e wy ⟨v1, rfl, O1, _, E9⟩
  obtain ⟨A1, c1, rfl, hA1, _, R1⟩ := O1.shape2
  rw [bys_length]
  have HCL := Lib.hid (refClose_any (c := c1) R1 hA1 (by rw [pack_length]; have := hbl.out; omega))
  have HF9 := Lib.hid (HF0.out.trans E9.2.1 (fun _ k => k.elim))
  clear O1 R1 E9 HE HBY hA1
  go_wp2_with fail
  refine HCL.out.mono ?_
  rintro e wz ⟨v2, rfl, O2, N2, FZ⟩
  go_wp2
  go_ret
  exact ⟨v2, rfl, O2, (by show ∀ k, _; exact fun k hk => Nat.le_trans HF9.out.size (N2.out k hk)), HF9.out.trans FZ (fun _ k => k.elim)⟩
end Go.Proofs.Ytngjfebndhmlmaa
