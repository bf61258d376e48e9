import Derived.Test.YthimhjdanmejmaaReadsI
namespace Go.Proofs.Ythimhjdanmejmaa
open Go.RowKit Go

def twos (p : List UInt8) : List Bool := p.flatMap fun b => putBits b.toNat 2
theorem twos_length : ∀ p : List UInt8, (twos p).length = 2 * p.length
  | [] => rfl
  | x :: p => by
    have := twos_length p
    simp only [twos, List.flatMap_cons, List.length_append, putBits_length, List.length_cons] at *
    omega
theorem twos_take (p : List UInt8) (k : Nat) (h : k < p.length) : twos (p.take (k + 1)) = twos (p.take k) ++ putBits (p.getD k 0).toNat 2 := by
  unfold twos
  rw [List.take_add_one, List.flatMap_append, List.getD_eq_getElem?_getD, List.getElem?_eq_getElem h]
  simp
abbrev Uw (x : Int) : Nat := u64 x
theorem Uw_wrap (x : Int) : IntKind.u64.wrap x = (Uw x : Int) := u64_wrap x
theorem Uw_lt (x : Int) : Uw x < 18446744073709551616 := u64_lt x
def lhead (x : Lk) : List Bool := putBits (Uw (x.r : Int)) 8 ++ putBits (Uw (x.t : Int)) 8 ++ [x.e != -1] ++ putBits x.p.length 4
def lbits (x : Lk) : List Bool := lhead x ++ twos x.p
def allBits (M : List LkM) : List Bool := M.flatMap fun x => lbits x.1
theorem lbits_length (x : Lk) : (lbits x).length = 21 + 2 * x.p.length := by simp [lbits, lhead, putBits_length, twos_length]; omega
theorem allBits_take (M : List LkM) (k : Nat) (h : k < M.length) : allBits (M.take (k + 1)) = allBits (M.take k) ++ lbits (M[k]).1 := by
  unfold allBits
  rw [List.take_add_one, List.flatMap_append, List.getElem?_eq_getElem h]
  simp
theorem allBits_le : ∀ (M : List LkM), (∀ x ∈ M, x.1.p.length ≤ 15) → (allBits M).length ≤ 51 * M.length
  | [], _ => by simp [allBits]
  | x :: M, h => by
    have h1 := allBits_le M (fun y hy => h y (List.mem_cons_of_mem _ hy))
    have h2 := h x (List.mem_cons_self ..)
    have h3 := lbits_length x.1
    simp only [allBits, List.flatMap_cons, List.length_append, List.length_cons] at *
    omega

set_option maxRecDepth 20000 in
set_option maxHeartbeats 4000000 in
theorem refEncode_any {w00 w : World} {e0 : TypeId} {A : Option Addr} {c : Nat} {M : List LkM} (hr : Rows w00 w e0 (.slice A M.length c) M) (hp : ∀ x ∈ M, x.1.p.length ≤ 15) (hn : M.length ≤ 20) :
    Calls Try.prog 10 #[.slice A M.length c] w fun e w' => ∃ v l, e = .returned v ∧ Own w' 5 v (bys (closed l)) ∧ 1 ≤ l.length ∧ l.length ≤ 200 ∧ Hid (∀ k, v.ownBlock = some k → w.heap.size ≤ k) ∧ Fr No w w' := by
  have HR := Lib.hid hr
  have HPP := Lib.hid hp
  have HP := Lib.hid (put_bitsAt (BitsAt.start w) (by simp) M.length 8 8 rfl (by omega))
  have e0 : IntKind.u64.wrap (M.length : Int) = (M.length : Int) := by rw [IntKind.wrap_u64]; omega
  have hb8 : Hid (([] ++ putBits M.length 8).length = 8) := by show ([] ++ putBits M.length 8).length = 8; simp [putBits_length]
  obtain ⟨b8, hbb⟩ : ∃ b8, [] ++ putBits M.length 8 = b8 := ⟨_, rfl⟩
  rw [hbb] at HP hb8
  clear hr hp hbb
  go_enter Try.func10, Try.ntmps10
  go_wp2_with fail
  refine HP.out.mono ?_
  rintro e w1 ⟨v1, rfl, E1⟩
  have HE := Lib.hid E1
  clear E1 HP
  go_wp2
  go_loopg [3, 4] M.length (fun gk v i wr => ∃ (k : Nat) (v2 : Value), k + gk = M.length ∧ v2 = v ∧ i = .int .i64 (k : Int) ∧ Hid (BitsAt w wr v2 (b8 ++ allBits (M.take k))))
  case atStart => exact ⟨0, v1, by omega, rfl, rfl, by show BitsAt w w1 v1 _; simpa [allBits] using HE.out⟩
  case round =>
    obtain ⟨k, v2, hk, rfl, rfl, HB⟩ := hrel
    clear HE
    have hle : (allBits (M.take k)).length ≤ 51 * M.length := by
      have h1 := allBits_le (M.take k) (fun x hx => HPP.out x (List.mem_of_mem_take hx))
      rw [List.length_take] at h1
      omega
    obtain ⟨bk, hbk⟩ : ∃ bk, b8 ++ allBits (M.take k) = bk := ⟨_, rfl⟩
    have hbl : Hid (bk.length ≤ 1100) := by show bk.length ≤ 1100; rw [← hbk, List.length_append, hb8.out]; omega
    have HBK := Lib.hid hbk
    rw [hbk] at HB
    clear hle hbk
    by_cases hkl : k < M.length
    · obtain ⟨ad, rfl, c0, c1, c2, c3, rp⟩ := (HR.out.no HB.out.2.1).at hkl
      have ht := Lib.hid (allBits_take M k hkl)
      have hp15 := HPP.out _ (List.getElem_mem hkl)
      obtain ⟨X, hX⟩ : ∃ X, M[k] = X := ⟨_, rfl⟩
      rw [hX] at c0 c1 c2 c3 rp ht hp15
      obtain ⟨x, B, d⟩ := X
      simp only at c0 c1 c2 c3 rp ht hp15
      have KC : Hid (∀ W, Fr No w W → (W.cell? (ad.add (k * 4)) = some (.int .i64 (x.r : Int)) ∧ W.cell? ⟨(ad.add (k * 4)).block, (ad.add (k * 4)).off + 1, none⟩ = some (.int .i64 (x.t : Int))) ∧ W.cell? ⟨(ad.add (k * 4)).block, (ad.add (k * 4)).off + 2, none⟩ = some (.int .i64 x.e) ∧ W.cell? ⟨(ad.add (k * 4)).block, (ad.add (k * 4)).off + 3, none⟩ = some (.slice B x.p.length d) ∧ Rd W B (bys x.p)) := by
        show ∀ W, _
        intro W hW
        obtain ⟨ad', e', d0, d1, d2, d3, dp⟩ := (HR.out.no hW).at hkl
        cases e'
        rw [hX] at d0 d1 d2 d3 dp
        exact ⟨⟨d0, d1⟩, d2, d3, dp⟩
      have eR := Uw_wrap (x.r : Int)
      have eT := Uw_wrap (x.t : Int)
      have eP : IntKind.u64.wrap (x.p.length : Int) = (x.p.length : Int) := by rw [IntKind.wrap_u64]; omega
      have j1 : (0 : Int) ≤ (k : Int) := by omega
      have j2 : (k : Int) < (M.length : Int) := by omega
      have HQ := Lib.hid (put_bitsAt HB.out (by have := hbl.out; omega) (Uw (x.r : Int)) 8 8 rfl (by omega))
      clear hX c1 c2 c3 rp
      go_wp2_with fail
      refine HQ.out.mono ?_
      rintro e w2 ⟨v3, rfl, E2⟩
      have q1 := (KC.out _ E2.2.1).1.2
      have HQ := Lib.hid (put_bitsAt E2 (by have := hbl.out; simp only [List.length_append, putBits_length]; omega) (Uw (x.t : Int)) 8 8 rfl (by omega))
      clear E2 c0
      go_wp2_with fail
      refine HQ.out.mono ?_
      rintro e w3 ⟨v4, rfl, E3⟩
      have q2 := (KC.out _ E3.2.1).2.1
      obtain ⟨bt, hbt⟩ : ∃ bt, bk ++ putBits (Uw (x.r : Int)) 8 ++ putBits (Uw (x.t : Int)) 8 = bt := ⟨_, rfl⟩
      have hbtl : bt.length ≤ 1200 := by rw [← hbt]; have := hbl.out; simp only [List.length_append, putBits_length]; omega
      rw [hbt] at E3
      have HBT := Lib.hid hbt
      have HE3 := Lib.hid E3
      clear E3 q1 HQ hbt
      go_wp2_with (at_builtin; go_loud (refine own_append rfl (.tmp 32) (.tmp 39) 49 4 (.bool false) 1 rfl Try.underlying49 infoBool rfl (by decide) _ (bls bt) (.bool (x.e != -1)) _ rfl rfl rfl rfl HE3.out.1 ?hl ?_))
      case hl => rw [bls_length]; omega
      intro v5 w4 o4 f4 a4
      have E4 := HE3.out.snoc o4 f4 a4
      have q3 := (KC.out _ E4.2.1).2.2.1
      have HQ := Lib.hid (put_bitsAt E4 (by simp only [List.length_append, List.length_cons, List.length_nil]; omega) x.p.length 4 4 rfl (by omega))
      clear o4 f4 a4 E4 q2 HE3
      go_wp2_with fail
      refine HQ.out.mono ?_
      rintro e w5 ⟨v6, rfl, E5⟩
      have hb5 : bt ++ [x.e != -1] ++ putBits x.p.length 4 = bk ++ lhead x := by rw [← HBT.out]; unfold lhead; simp [List.append_assoc]
      rw [hb5] at E5
      have HE5 := Lib.hid E5
      clear E5 hb5 q3 HQ
      go_wp2
      go_loopg [3, 5] x.p.length (fun gk2 v i wr => ∃ (j : Nat) (v2 : Value), j + gk2 = x.p.length ∧ v2 = v ∧ i = .int .i64 (j : Int) ∧ Hid (BitsAt w wr v2 (bk ++ lhead x ++ twos (x.p.take j))))
      case atStart => exact ⟨0, v6, by omega, rfl, rfl, by show BitsAt w w5 v6 _; simpa [twos] using HE5.out⟩
      case round =>
        obtain ⟨j, v7, hj, rfl, rfl, HB7⟩ := hrel
        clear HE5
        obtain ⟨_, _, q3, qp⟩ := KC.out _ HB7.out.2.1
        by_cases hjl : j < x.p.length
        · obtain ⟨bd, rfl, y, hy⟩ : ∃ bd, B = some bd ∧ ∃ y : Nat, wr.cell? (bd.add j) = some (.int .u8 (y : Int)) ∧ y = (x.p.getD j 0).toNat := by
            obtain ⟨bd, e1, e2⟩ := qp.byte hjl
            exact ⟨bd, e1, _, e2, rfl⟩
          obtain ⟨cy, hy⟩ := hy
          have ht2 := Lib.hid (twos_take x.p j hjl)
          rw [← hy] at ht2
          have hy8 : y < 256 := by rw [hy]; exact UInt8.toNat_lt _
          have eY : IntKind.u64.wrap (y : Int) = (y : Int) := by rw [IntKind.wrap_u64]; omega
          have hl2 : (twos (x.p.take j)).length ≤ 30 := by rw [twos_length, List.length_take]; omega
          have HQ := Lib.hid (put_bitsAt HB7.out (by have := hbl.out; simp only [List.length_append, lhead, putBits_length, List.length_cons, List.length_nil]; omega) y 2 2 rfl (by omega))
          rw [List.append_assoc (bk ++ lhead x), ← ht2.out] at HQ
          clear hy hl2 qp
          go_wp2_with fail
          refine HQ.out.mono ?_
          rintro e w6 ⟨v8, rfl, E6⟩
          have HE6 := Lib.hid E6
          clear E6
          go_wp2
          go_roundg (x.p.length - (j + 1))
          case measure => omega
          case rel => exact ⟨j + 1, v8, by omega, rfl, by go_num, HE6⟩
        · obtain rfl : j = x.p.length := by omega
          have E7 := HB7.out
          rw [List.take_length, List.append_assoc] at E7
          have e7 : bk ++ (lhead x ++ twos x.p) = b8 ++ allBits (M.take (k + 1)) := by rw [ht.out, ← List.append_assoc b8, HBK.out]; rfl
          rw [e7] at E7
          have HE7 := Lib.hid E7
          clear E7 e7 HB7 qp
          go_wp2
          go_roundg (M.length - (k + 1))
          case measure => omega
          case rel => exact ⟨k + 1, v7, by omega, rfl, by go_num, HE7⟩
    · obtain rfl : k = M.length := by omega
      have HBY := Lib.hid (pack_bitsAt HB.out (by have := hbl.out; omega))
      have hb1 : Hid (8 ≤ bk.length) := by show 8 ≤ bk.length; rw [← HBK.out, List.length_append, hb8.out]; omega
      go_wp2_with fail
      refine HBY.out.mono ?_
      rintro e wy ⟨v9, rfl, O1, _, E9⟩
      obtain ⟨A1, c1, rfl, hA1, _, R1⟩ := O1.shape2
      rw [bys_length]
      have HCL := Lib.hid (refClose_any (c := c1) R1 hA1 (by rw [pack_length]; have := hbl.out; omega))
      have HF9 := Lib.hid E9.2.1
      clear O1 R1 E9 HBY hA1
      go_wp2_with fail
      refine HCL.out.mono ?_
      rintro e wz ⟨v10, rfl, O2, N2, FZ⟩
      go_wp2
      go_ret
      exact ⟨v10, pack bk, rfl, O2, by rw [pack_length]; have := hb1.out; omega, by rw [pack_length]; have := hbl.out; omega, (by show ∀ k, _; exact fun k hk => Nat.le_trans HF9.out.size (N2.out k hk)), HF9.out.trans FZ (fun _ k => k.elim)⟩
end Go.Proofs.Ythimhjdanmejmaa
