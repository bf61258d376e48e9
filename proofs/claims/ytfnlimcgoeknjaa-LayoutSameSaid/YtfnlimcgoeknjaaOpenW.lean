import Derived.Test.YtfnlimcgoeknjaaCloseW
import Derived.Lib.SlBytesConst
namespace Go.Proofs.Ytfnlimcgoeknjaa
open Go.RowKit Go

set_option maxRecDepth 20000 in
set_option maxHeartbeats 1000000 in
theorem refClose_any {A : Option Addr} {c : Nat} {l : List UInt8} {w : World} (hl : Rd w A (bys l)) (hA : A = none → c = 0) (hlen : l.length ≤ 70368744177664) :
    Calls Try.prog 11 #[.slice A l.length c] w fun e w' => ∃ v, e = .returned v ∧ Own w' 5 v (bys (closed l)) ∧ Hid (∀ k, v.ownBlock = some k → w.heap.size ≤ k) ∧ Fr No w w' := by
  have HL := Lib.hid hl
  have HA := Lib.hid hA
  clear hl hA
  go_enter Try.func11, Try.ntmps11
  go_wp2_with fail
  refine (crcRef_any A c l w HL.out).mono ?_
  rintro e w1 ⟨rfl, F1⟩
  go_wp2_with fail
  refine (join_any (l := l) (m := sum l) (d := 2) (HL.out.no (F1.alloc _)) (rd_sum' w1 l) HA.out (fun h => by cases h) (by simp [sum]; omega)).mono ?_
  rintro e w2 ⟨v, rfl, O, B, F⟩
  have F' := (F1.alloc _).trans F (fun _ k => k.elim)
  have B' : Hid (∀ k, v.ownBlock = some k → w.heap.size ≤ k) := by
    show ∀ k, v.ownBlock = some k → w.heap.size ≤ k
    intro k hk
    exact Nat.le_trans (F1.alloc _).size (B.out k hk)
  clear B F
  go_wp2
  go_ret
  exact ⟨v, rfl, O, B', F'⟩

/-- What Open answers: its error, and the bytes without their sum. -/
def code (l : List UInt8) : Int := if l.length < 2 then 4 else if reg l = K then 0 else 3
def body (l : List UInt8) : List UInt8 := if code l = 0 then l.take (l.length - 2) else []

set_option maxRecDepth 20000 in
set_option maxHeartbeats 1000000 in
theorem open_any {A : Option Addr} {c : Nat} {l : List UInt8} {w : World} (hl : Rd w A (bys l)) (hc : l.length ≤ c) (hlen : l.length ≤ 70368744177664) :
    Calls Try.prog 28 #[.slice A l.length c] w fun e w' => ∃ v, e = .returned (.tuple #[v, .int .i64 (code l)]) ∧ Own w' 5 v (bys (body l)) ∧ Hid (∀ k, v.ownBlock = some k → w.heap.size ≤ k) ∧ Fr No w w' := by
  have HL := Lib.hid hl
  clear hl
  by_cases h2 : l.length < 2
  · have hcode : Hid (code l = 4) := by show code l = 4; unfold code; rw [if_pos h2]
    have hb : Hid (body l = []) := by show body l = []; unfold body; rw [if_neg (by rw [hcode.out]; omega)]
    go_enter Try.func28, Try.ntmps28
    go_wp2
    go_ret2
    refine ⟨_, by rw [hcode.out]; rfl, by rw [hb.out]; exact Own.nil _ _, (fun k h => by simp [Value.ownBlock] at h), Fr.refl _ _⟩
  · obtain ⟨ad, rfl, _⟩ := HL.out.byte (j := 0) (by omega)
    obtain ⟨n, hn⟩ : ∃ n, l.length = n + 2 := ⟨l.length - 2, by omega⟩
    obtain ⟨q, hq⟩ : ∃ q, l.take n = q := ⟨_, rfl⟩
    have hqn : q.length = n := by rw [← hq]; simp; omega
    have hrq : Rd w (some ad) (bys q) := by
      rw [← hq]
      refine ⟨by rw [bys_length]; simp; omega, fun j hj => ?_⟩
      rw [bys_length] at hj
      have hj' : j < n := by simp at hj; omega
      obtain ⟨a, e, h⟩ := HL.out.2 j (by rw [bys_length]; omega)
      refine ⟨a, e, ?_⟩
      rw [h]
      simp [bys, List.getD_eq_getElem?_getD, hj']
    have hiff : closed q = l ↔ reg l = K := by
      have := closed_iff l (by omega)
      rwa [show l.length - 2 = n by omega, hq] at this
    have C := clone_any (c := c) hrq (fun h => by cases h) (by omega)
    rw [hqn] at C
    have HC := Lib.hid C
    have HN := Lib.hid hn
    have HQ := Lib.hid hq
    have HQN := Lib.hid hqn
    have HI := Lib.hid hiff
    clear C hrq hq hqn hiff
    go_enter Try.func28, Try.ntmps28
    go_wp2_with fail
    refine HC.out.mono ?_
    rintro e w1 ⟨v, rfl, O1, B1, F1⟩
    obtain ⟨A1, c1, rfl, _, _, R1⟩ := O1.shape
    have CL := close_any (c := c1) R1 (by rw [HQN.out]; omega)
    rw [bys_length, HQN.out]
    rw [HQN.out] at CL
    have HCL := Lib.hid CL
    clear CL R1
    go_wp2_with fail
    refine HCL.out.mono ?_
    rintro e w2 ⟨v2, rfl, O2, B2, F2⟩
    obtain ⟨A2, c2, rfl, _, _, R2⟩ := O2.shape
    have EQ := bytesEqual_any (c := c2) (d := c) R2 (HL.out.no (F1.trans F2 (fun _ k => k.elim)))
    rw [bys_length]
    have HEQ := Lib.hid EQ
    rw [HN.out] at HEQ
    clear EQ R2
    go_wp2_with fail
    refine HEQ.out.mono ?_
    rintro e w3 ⟨rfl, rfl⟩
    have FF := F1.trans F2 (fun _ k => k.elim)
    by_cases hok : closed q = l
    · have e1 : decide (closed q = l) = true := decide_eq_true hok
      have hcode : Hid (code l = 0) := by show code l = 0; unfold code; rw [if_neg h2, if_pos (HI.out.1 hok)]
      have hb : Hid (body l = q) := by show body l = q; unfold body; rw [if_pos hcode.out, HN.out, ← HQ.out]; rfl
      go_wp2
      go_ret2
      rw [bys_length, HQN.out] at O1 B1
      exact ⟨.slice A1 n c1, by rw [hcode.out]; rfl, by rw [hb.out]; exact O1.fr F2 (fun _ _ k => k), B1, FF⟩
    · have e1 : decide (closed q = l) = false := decide_eq_false hok
      have hcode : Hid (code l = 3) := by show code l = 3; unfold code; rw [if_neg h2, if_neg (fun h => hok (HI.out.2 h))]
      have hb : Hid (body l = []) := by show body l = []; unfold body; rw [if_neg (by rw [hcode.out]; omega)]
      go_wp2
      go_ret2
      exact ⟨_, by rw [hcode.out]; rfl, by rw [hb.out]; exact Own.nil _ _, (fun k h => by simp [Value.ownBlock] at h), FF⟩

set_option maxRecDepth 20000 in
set_option maxHeartbeats 1000000 in
theorem refOpen_any {A : Option Addr} {c : Nat} {l : List UInt8} {w : World} (hl : Rd w A (bys l)) (hc : l.length ≤ c) (hlen : l.length ≤ 70368744177664) :
    Calls Try.prog 60 #[.slice A l.length c] w fun e w' => ∃ B d, e = .returned (.tuple #[.slice B (body l).length d, .int .i64 (code l)]) ∧ Rd w B (bys (body l)) ∧ Fr No w w' := by
  have HL := Lib.hid hl
  clear hl
  by_cases h2 : l.length < 2
  · have hcode : Hid (code l = 4) := by show code l = 4; unfold code; rw [if_pos h2]
    have hb : Hid (body l = []) := by show body l = []; unfold body; rw [if_neg (by rw [hcode.out]; omega)]
    go_enter Try.func60, Try.ntmps60
    go_wp2
    go_ret2
    exact ⟨none, 0, by rw [hcode.out, hb.out]; rfl, by rw [hb.out]; exact Rd.nil _ _, Fr.refl _ _⟩
  · obtain ⟨ad, rfl, _⟩ := HL.out.byte (j := 0) (by omega)
    obtain ⟨n, hn⟩ : ∃ n, l.length = n + 2 := ⟨l.length - 2, by omega⟩
    obtain ⟨q, hq⟩ : ∃ q, l.take n = q := ⟨_, rfl⟩
    have hqn : q.length = n := by rw [← hq]; simp; omega
    have hrq : Rd w (some ad) (bys q) := by
      rw [← hq]
      refine ⟨by rw [bys_length]; simp; omega, fun j hj => ?_⟩
      rw [bys_length] at hj
      have hj' : j < n := by simp at hj; omega
      obtain ⟨a, e, h⟩ := HL.out.2 j (by rw [bys_length]; omega)
      refine ⟨a, e, ?_⟩
      rw [h]
      simp [bys, List.getD_eq_getElem?_getD, hj']
    have hiff : closed q = l ↔ reg l = K := by
      have := closed_iff l (by omega)
      rwa [show l.length - 2 = n by omega, hq] at this
    have C := refClose_any (c := c) hrq (fun h => by cases h) (by omega)
    rw [hqn] at C
    have HC := Lib.hid C
    have HR := Lib.hid hrq
    have HN := Lib.hid hn
    have HQ := Lib.hid hq
    have HQN := Lib.hid hqn
    have HI := Lib.hid hiff
    clear C hrq hq hqn hiff
    go_enter Try.func60, Try.ntmps60
    go_wp2_with fail
    refine HC.out.mono ?_
    rintro e w1 ⟨v, rfl, O1, B1, F1⟩
    obtain ⟨A1, c1, rfl, _, _, R1⟩ := O1.shape
    have EQ := refBytes_any (c := c1) (d := c) R1 (HL.out.no F1)
    rw [bys_length]
    have HEQ := Lib.hid EQ
    rw [HN.out] at HEQ
    clear EQ R1 O1 B1
    go_wp2_with fail
    refine HEQ.out.mono ?_
    rintro e w3 ⟨rfl, F2⟩
    have FF := F1.trans F2 (fun _ k => k.elim)
    by_cases hok : closed q = l
    · have e1 : decide (closed q = l) = true := decide_eq_true hok
      have hcode : Hid (code l = 0) := by show code l = 0; unfold code; rw [if_neg h2, if_pos (HI.out.1 hok)]
      have hb : Hid (body l = q) := by show body l = q; unfold body; rw [if_pos hcode.out, HN.out, ← HQ.out]; rfl
      go_wp2
      go_ret2
      exact ⟨some ad, c, by rw [hcode.out, hb.out, HQN.out]; rfl, by rw [hb.out]; exact HR.out, FF⟩
    · have e1 : decide (closed q = l) = false := decide_eq_false hok
      have hcode : Hid (code l = 3) := by show code l = 3; unfold code; rw [if_neg h2, if_neg (fun h => hok (HI.out.2 h))]
      have hb : Hid (body l = []) := by show body l = []; unfold body; rw [if_neg (by rw [hcode.out]; omega)]
      go_wp2
      go_ret2
      exact ⟨none, 0, by rw [hcode.out, hb.out]; rfl, by rw [hb.out]; exact Rd.nil _ _, FF⟩

theorem rd_lit (w : World) (l : List UInt8) (fr : Nat × Nat) (h : l.length ≤ 9223372036854775807) : Rd (w.alloc (.cells (bys l).toArray 5 fr)) (some ⟨w.heap.size, 0, none⟩) (bys l) := by
  refine ⟨by rw [bys_length]; exact h, fun j hj => ⟨_, rfl, ?_⟩⟩
  rw [addr_add0, blk_cell (blk_new w _)]
  simp [List.getD_eq_getElem?_getD, List.getElem?_eq_getElem hj]
theorem code_closed (l : List UInt8) : code (closed l) = 0 := by
  unfold code
  rw [if_neg (by rw [closed_length]; omega), if_pos (reg_closed l)]
theorem body_closed (l : List UInt8) : body (closed l) = l := by
  unfold body
  rw [if_pos (code_closed l), closed_length]
  unfold closed
  simp

end Go.Proofs.Ytfnlimcgoeknjaa
