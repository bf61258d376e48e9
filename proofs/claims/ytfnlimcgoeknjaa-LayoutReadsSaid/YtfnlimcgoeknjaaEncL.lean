import Derived.Test.YtfnlimcgoeknjaaLayM
import Derived.Test.YtfnlimcgoeknjaaSameP
namespace Go.Proofs.Ytfnlimcgoeknjaa
open Go.RowKit Go Fl

/-- A writer at block g: its bits so far. Since w1 nothing but the blocks of S has been turned. -/
def EncS (S : Nat → Prop) (w1 w : World) (g : Nat) (b : List Bool) : Prop := ∃ v, Wr w g v b ∧ Fr S w1 w ∧ S g ∧ (∀ k, v.ownBlock = some k → S k ∨ w1.heap.size ≤ k) ∧ g < w1.heap.size
theorem EncS.fr {S : Nat → Prop} {w1 w : World} {g : Nat} {b : List Bool} (h : EncS S w1 w g b) : Fr S w1 w := by
  obtain ⟨_, _, h, _⟩ := h
  exact h
theorem EncS.no {S : Nat → Prop} {w1 w w2 : World} {g : Nat} {b : List Bool} (h : EncS S w1 w g b) (hf : Fr No w w2) : EncS S w1 w2 g b := by
  obtain ⟨v, h1, h2, h3, h4⟩ := h
  exact ⟨v, h1.fr hf (fun k => k) (fun _ _ k => k), h2.trans hf (fun _ k => k.elim), h3, h4⟩
theorem putS {S : Nat → Prop} {w1 w : World} {g : Nat} {b : List Bool} (h : EncS S w1 w g b) (hb : b.length ≤ 549755813888) (N : Nat) (hN : N < 18446744073709551616) (width : Int) (m : Nat) (hm : clamp width = m) :
    Calls Try.prog 43 #[.pointer (some ⟨g, 0, none⟩), .int .u64 (N : Int), .int .i64 width] w fun e w' => e = .returned (.pointer (some ⟨g, 0, none⟩)) ∧ EncS S w1 w' g (b ++ putBits N m) := by
  subst hm
  obtain ⟨v, h1, h2, h3, h4, h5⟩ := h
  refine (put_any h1 hb N hN width).mono ?_
  rintro e w' ⟨rfl, v1, W1, F1, K1⟩
  refine ⟨rfl, v1, W1, h2.trans F1 (fun i hi => ?_), h3, fun k hk => ?_, h5⟩
  · rcases hi with e | e
    · rw [e]; exact .inl h3
    · exact h4 i e
  · rcases K1 with e | ⟨j, e, hj⟩
    · rw [e] at hk; exact h4 k hk
    · rw [e] at hk; cases hk; exact .inr (Nat.le_trans h2.size hj)
/-- Behind a new block: the writer's blocks alone may be turned; and back. -/
theorem EncS.split {S : Nat → Prop} {w1 w : World} {g : Nat} {b : List Bool} (h : EncS S w1 w g b) (o : Obj) : ∃ S' : Nat → Prop, EncS S' (w.alloc o) (w.alloc o) g b ∧ ¬ S' w.heap.size ∧ ∀ w' b', EncS S' (w.alloc o) w' g b' → EncS S w1 w' g b' := by
  obtain ⟨v, h1, h2, h3, h4, h5⟩ := h
  have hg : g < w.heap.size := blk_lt h1.blk
  refine ⟨fun k => k = g ∨ v.ownBlock = some k, ⟨v, h1.fr ((Fr.refl No w).alloc o) (fun k => k) (fun _ _ k => k), Fr.refl _ _, .inl rfl, fun k hk => .inl (.inr hk), by simp; omega⟩, ?_, ?_⟩
  · rintro (e | e)
    · omega
    · have := h1.own.lt e; omega
  · rintro w' b' ⟨v', k1, k2, _, k4, _⟩
    have hs : w1.heap.size ≤ (w.alloc o).heap.size := Nat.le_trans h2.size (by simp)
    refine ⟨v', k1, (h2.trans ((Fr.refl No w).alloc o) (fun _ k => k.elim)).trans k2 (fun i hi => ?_), h3, fun k hk => ?_, h5⟩
    · rcases hi with e | e
      · rw [e]; exact .inl h3
      · exact h4 i e
    · rcases k4 k hk with (e | e) | e
      · rw [e]; exact .inl h3
      · exact h4 k e
      · exact .inr (Nat.le_trans hs e)

theorem EncS.split' {S : Nat → Prop} {w1 w : World} {g : Nat} {b : List Bool} (h : EncS S w1 w g b) (o : Obj) : ∃ S' : Nat → Prop, EncS S' (w.alloc o) (w.alloc o) g b ∧ ¬ S' w.heap.size ∧ (∀ w' b', EncS S' (w.alloc o) w' g b' → EncS S w1 w' g b') ∧ ∀ k, S' k → S k ∨ w1.heap.size ≤ k := by
  obtain ⟨v, h1, h2, h3, h4, h5⟩ := h
  have hg : g < w.heap.size := blk_lt h1.blk
  refine ⟨fun k => k = g ∨ v.ownBlock = some k, ⟨v, h1.fr ((Fr.refl No w).alloc o) (fun k => k) (fun _ _ k => k), Fr.refl _ _, .inl rfl, fun k hk => .inl (.inr hk), by simp; omega⟩, ?_, ?_, ?_⟩
  · rintro (e | e)
    · omega
    · have := h1.own.lt e; omega
  · rintro w' b' ⟨v', k1, k2, _, k4, _⟩
    have hs : w1.heap.size ≤ (w.alloc o).heap.size := Nat.le_trans h2.size (by simp)
    refine ⟨v', k1, (h2.trans ((Fr.refl No w).alloc o) (fun _ k => k.elim)).trans k2 (fun i hi => ?_), h3, fun k hk => ?_, h5⟩
    · rcases hi with e | e
      · rw [e]; exact .inl h3
      · exact h4 i e
    · rcases k4 k hk with (e | e) | e
      · rw [e]; exact .inl h3
      · exact h4 k e
      · exact .inr (Nat.le_trans hs e)
  · rintro k (e | e)
    · rw [e]; exact .inl h3
    · exact h4 k e

/-- Numbers of one width. -/
def numB (m : Nat) (xs : List Int) : List Bool := xs.flatMap fun v => putBits (u64 v) m
theorem numB_length (m : Nat) (xs : List Int) : (numB m xs).length = xs.length * m := by
  unfold numB
  induction xs with
  | nil => simp
  | cons x xs ih => simp only [List.flatMap_cons, List.length_append, putBits_length, ih, List.length_cons, Nat.succ_mul]; omega
theorem numB_snoc (m : Nat) (xs : List Int) (j : Nat) (h : j < xs.length) : numB m (xs.take (j + 1)) = numB m (xs.take j) ++ putBits (u64 (xs.getD j 0)) m := by
  unfold numB
  rw [List.take_add_one, List.flatMap_append, List.getD_eq_getElem?_getD, List.getElem?_eq_getElem h]
  simp

set_option maxRecDepth 20000 in
set_option maxHeartbeats 4000000 in
theorem numbers_any {S : Nat → Prop} {w1 w : World} {g : Nat} {b : List Bool} {A : Option Addr} {c : Nat} {xs : List Int} (h : EncS S w1 w g b) (width : Int) (m : Nat) (hm : clamp width = m) (hR : Rd w1 A (ints .i64 xs)) (hA : ∀ ad, A = some ad → ¬ S ad.block) (hb : b.length + xs.length * m ≤ 549755813888) :
    Calls Try.prog 46 #[.pointer (some ⟨g, 0, none⟩), .int .i64 width, .slice A xs.length c] w fun e w' => e = .returned (.tuple #[]) ∧ EncS S w1 w' g (b ++ numB m xs) := by
  have HE := Lib.hid h
  have HR := Lib.hid hR
  have HA := Lib.hid hA
  have HB := Lib.hid hb
  have hsz := hR.1
  rw [ints_length] at hsz
  obtain ⟨n, hn⟩ : ∃ n, xs.length = n := ⟨_, rfl⟩
  have HN := Lib.hid hn
  rw [hn] at hsz ⊢
  clear h hR hA hb hn
  go_enter Try.func46, Try.ntmps46
  go_wp2
  go_loopg [10] n (fun gk i wr => ∃ k : Nat, k + gk = n ∧ i = .int .i64 (k : Int) ∧ Hid (EncS S w1 wr g (b ++ numB m (xs.take k))))
  case atStart => exact ⟨0, by omega, rfl, Lib.hid (by rw [List.take_zero]; unfold numB; simpa using HE.out)⟩
  case round =>
    obtain ⟨k, hk, rfl, HW⟩ := hrel
    by_cases hlt : k < n
    · obtain ⟨ad, rfl, cx⟩ := (HR.out.fr HW.out.fr HA.out).int (show k < xs.length by rw [HN.out]; exact hlt)
      have hsn := numB_snoc m xs k (by rw [HN.out]; exact hlt)
      obtain ⟨x, hx⟩ : ∃ x, xs.getD k 0 = x := ⟨_, rfl⟩
      rw [hx] at cx hsn
      have hP := putS HW.out (by
        rw [List.length_append, numB_length, List.length_take]
        have h1 := HB.out
        have h2 : min k xs.length * m ≤ xs.length * m := Nat.mul_le_mul_right _ (by omega)
        omega) (u64 x) (u64_lt x) width m hm
      rw [List.append_assoc, ← hsn] at hP
      have i1 : IntKind.u64.wrap x = (u64 x : Int) := u64_wrap x
      have i4 : (k : Int) < (n : Int) := by omega
      have i0 : (0 : Int) ≤ (k : Int) := by omega
      have HP := Lib.hid hP
      clear hP hx hsn
      go_wp2_with fail
      refine HP.out.mono ?_
      rintro e w3 ⟨rfl, H3⟩
      have HH := Lib.hid H3
      clear HP cx i1 H3
      go_wp2
      go_roundg (n - (k + 1))
      case measure => omega
      case rel => exact ⟨k + 1, by omega, by go_num, HH⟩
    · obtain rfl : k = n := by omega
      go_wp2
      go_end0
      exact ⟨rfl, by have := HW.out; rwa [← HN.out, List.take_length] at this⟩
end Go.Proofs.Ytfnlimcgoeknjaa
