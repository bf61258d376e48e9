import Derived.Test.YtfnlimcgoeknjaaOpenW
namespace Go.Proofs.Ytfnlimcgoeknjaa
open Go.RowKit Go

theorem refOpen_cap {A : Option Addr} {c : Nat} {l : List UInt8} {w : World} (hl : Rd w A (bys l)) (hc : l.length ≤ c) (hlen : l.length ≤ 70368744177664) :
    Calls Try.prog 60 #[.slice A l.length c] w fun e w' => ∃ B d, e = .returned (.tuple #[.slice B (body l).length d, .int .i64 (code l)]) ∧ Rd w B (bys (body l)) ∧ Fr No w w' ∧ Hid ((body l).length ≤ d) := by
  have HL := Lib.hid hl
  clear hl
  by_cases h2 : l.length < 2
  · have hcode : Hid (code l = 4) := by show code l = 4; unfold code; rw [if_pos h2]
    have hb : Hid (body l = []) := by show body l = []; unfold body; rw [if_neg (by rw [hcode.out]; omega)]
    go_enter Try.func60, Try.ntmps60
    go_wp2
    go_ret2
    exact ⟨none, 0, by rw [hcode.out, hb.out]; rfl, by rw [hb.out]; exact Rd.nil _ _, Fr.refl _ _, Lib.hid (by rw [hb.out]; simp)⟩
  · obtain ⟨ad, rfl, _⟩ := HL.out.byte (j := 0) (by omega)
    obtain ⟨n, hn⟩ : ∃ n, l.length = n + 2 := ⟨l.length - 2, by omega⟩
    obtain ⟨q, hq⟩ : ∃ q, l.take n = q := ⟨_, rfl⟩
    have hqn : q.length = n := by rw [← hq]; simp; omega
    have hrq : Rd w (some ad) (bys q) := by
      rw [← hq]
      refine ⟨by rw [bys_length]; simp; omega, fun j hj => ?_⟩
      rw [bys_length] at hj
      have hj' : j < n := by simp at hj; omega
      obtain ⟨a, e, h⟩ := HL.out.2 j (by rw [bys_length]; omega)
      refine ⟨a, e, ?_⟩
      rw [h]
      simp [bys, List.getD_eq_getElem?_getD, hj']
    have hiff : closed q = l ↔ reg l = K := by
      have := closed_iff l (by omega)
      rwa [show l.length - 2 = n by omega, hq] at this
    have C := refClose_any (c := c) hrq (fun h => by cases h) (by omega)
    rw [hqn] at C
    have HC := Lib.hid C
    have HR := Lib.hid hrq
    have HN := Lib.hid hn
    have HQ := Lib.hid hq
    have HQN := Lib.hid hqn
    have HI := Lib.hid hiff
    clear C hrq hq hqn hiff
    go_enter Try.func60, Try.ntmps60
    go_wp2_with fail
    refine HC.out.mono ?_
    rintro e w1 ⟨v, rfl, O1, B1, F1⟩
    obtain ⟨A1, c1, rfl, _, _, R1⟩ := O1.shape
    have EQ := refBytes_any (c := c1) (d := c) R1 (HL.out.no F1)
    rw [bys_length]
    have HEQ := Lib.hid EQ
    rw [HN.out] at HEQ
    clear EQ R1 O1 B1
    go_wp2_with fail
    refine HEQ.out.mono ?_
    rintro e w3 ⟨rfl, F2⟩
    have FF := F1.trans F2 (fun _ k => k.elim)
    by_cases hok : closed q = l
    · have e1 : decide (closed q = l) = true := decide_eq_true hok
      have hcode : Hid (code l = 0) := by show code l = 0; unfold code; rw [if_neg h2, if_pos (HI.out.1 hok)]
      have hb : Hid (body l = q) := by show body l = q; unfold body; rw [if_pos hcode.out, HN.out, ← HQ.out]; rfl
      go_wp2
      go_ret2
      exact ⟨some ad, c, by rw [hcode.out, hb.out, HQN.out]; rfl, by rw [hb.out]; exact HR.out, FF, Lib.hid (by have := HN.out; rw [hb.out, HQN.out]; omega)⟩
    · have e1 : decide (closed q = l) = false := decide_eq_false hok
      have hcode : Hid (code l = 3) := by show code l = 3; unfold code; rw [if_neg h2, if_neg (fun h => hok (HI.out.2 h))]
      have hb : Hid (body l = []) := by show body l = []; unfold body; rw [if_neg (by rw [hcode.out]; omega)]
      go_wp2
      go_ret2
      exact ⟨none, 0, by rw [hcode.out, hb.out]; rfl, by rw [hb.out]; exact Rd.nil _ _, FF, Lib.hid (by rw [hb.out]; simp)⟩

theorem Rd.drop' {w : World} {ad : Addr} {l : List UInt8} (h : Rd w (some ad) (bys l)) (m : Nat) : Rd w (some (ad.add m)) (bys (l.drop m)) := by
  refine ⟨by have := h.1; rw [bys_length] at this ⊢; rw [List.length_drop]; omega, fun j hj => ⟨_, rfl, ?_⟩⟩
  rw [bys_length, List.length_drop] at hj
  obtain ⟨a, e, hc⟩ := h.2 (m + j) (by rw [bys_length]; omega)
  cases e
  have e2 : (ad.add m).add j = ad.add (m + j) := by
    unfold Addr.add
    split <;> split <;> simp_all <;> omega
  rw [e2, hc, bys_getD _ (by omega), bys_getD _ (by rw [List.length_drop]; omega)]
  simp [List.getD_eq_getElem?_getD]
end Go.Proofs.Ytfnlimcgoeknjaa
