import Derived.Test.YtfnlimcgoeknjaaRefX
namespace Go.Proofs.Ytfnlimcgoeknjaa
open Go.RowKit Go

theorem Own.rd {w : World} {e : TypeId} {A : Option Addr} {n c : Nat} {xs : List Value} (h : Own w e (.slice A n c) xs) : Rd w A xs ∧ n = xs.length ∧ (A = none → c = 0) := by
  obtain ⟨A', c', e, h2, _, h3⟩ := h.shape2
  injection e with e1 e2 e3
  subst e1 e2 e3
  exact ⟨h3, rfl, h2⟩

/-- A writer of this call's own, at block g: its bits so far. What was there at w0 is as it was. -/
def EncAt (w0 w : World) (g : Nat) (b : List Bool) : Prop := ∃ v, Wr w g v b ∧ Fr No w0 w ∧ (∀ k, v.ownBlock = some k → w0.heap.size ≤ k) ∧ w0.heap.size ≤ g
theorem EncAt.start (w0 : World) : EncAt w0 (w0.alloc (.cells #[.slice none 0 0, .int .i64 0] 84)) w0.heap.size [] :=
  ⟨.slice none 0 0, ⟨blk_new w0 _, Own.nil _ _, by simp [Value.ownBlock]⟩, (Fr.refl No w0).alloc _, fun k e => by simp [Value.ownBlock] at e, Nat.le_refl _⟩
theorem EncAt.old {w0 w : World} {g : Nat} {b : List Bool} (h : EncAt w0 w g b) : Fr No w0 w := by
  obtain ⟨_, _, h, _⟩ := h
  exact h
theorem EncAt.no {w0 w w1 : World} {g : Nat} {b : List Bool} (h : EncAt w0 w g b) (hf : Fr No w w1) : EncAt w0 w1 g b := by
  obtain ⟨v, h1, h2, h3, h4⟩ := h
  exact ⟨v, h1.fr hf (fun k => k) (fun _ _ k => k), h2.trans hf (fun _ k => k.elim), h3, h4⟩
theorem EncAt.drew {w0 w : World} {g : Nat} {b : List Bool} (h : EncAt w0 w g b) : EncAt w0 w.drew g b := h.no ((Fr.refl No w).drew)
theorem EncAt.ws {w0 w w1 : World} {g : Nat} {v v1 : Value} {b : List Bool} (h2 : Fr No w0 w) (h3 : ∀ k, v.ownBlock = some k → w0.heap.size ≤ k) (h4 : w0.heap.size ≤ g) (W1 : Wr w1 g v1 b) (F1 : Fr (WS g v) w w1) (K1 : Kin w v v1) : EncAt w0 w1 g b := by
  refine ⟨v1, W1, h2.trans F1 (fun i hi => .inr ?_), fun k hk => ?_, h4⟩
  · rcases hi with e | e
    · rw [e]; exact h4
    · exact h3 i e
  · rcases K1 with e | ⟨j, e, hj⟩
    · rw [e] at hk; exact h3 k hk
    · rw [e] at hk; cases hk; exact Nat.le_trans h2.size hj
theorem put_enc {w0 w : World} {g : Nat} {b : List Bool} (h : EncAt w0 w g b) (hb : b.length ≤ 549755813888) (N : Nat) (hN : N < 18446744073709551616) (width : Int) (m : Nat) (hm : clamp width = m) :
    Calls Try.prog 43 #[.pointer (some ⟨g, 0, none⟩), .int .u64 (N : Int), .int .i64 width] w fun e w' => e = .returned (.pointer (some ⟨g, 0, none⟩)) ∧ EncAt w0 w' g (b ++ putBits N m) := by
  subst hm
  obtain ⟨v, h1, h2, h3, h4⟩ := h
  refine (put_any h1 hb N hN width).mono ?_
  rintro e w' ⟨rfl, v1, W1, F1, K1⟩
  exact ⟨rfl, EncAt.ws h2 h3 h4 W1 F1 K1⟩
theorem bytes_enc {w0 w : World} {g : Nat} {b : List Bool} (h : EncAt w0 w g b) (hb : b.length ≤ 549755813888) :
    Calls Try.prog 53 #[.pointer (some ⟨g, 0, none⟩)] w fun e w' => ∃ v1, e = .returned v1 ∧ Own w' 5 v1 (bys (pack b)) ∧ Hid (∀ k, v1.ownBlock = some k → w.heap.size ≤ k) ∧ EncAt w0 w' g b := by
  obtain ⟨v, h1, h2, h3, h4⟩ := h
  refine (wbytes_any h1 hb).mono ?_
  rintro e w' ⟨v1, rfl, O, N, F⟩
  exact ⟨v1, rfl, O, N, EncAt.no ⟨v, h1, h2, h3, h4⟩ F⟩

/-- The document's bits, in a slice of this call's own. -/
def BitsAt (w0 w : World) (v : Value) (b : List Bool) : Prop := Own w 4 v (bls b) ∧ Fr No w0 w ∧ ∀ k, v.ownBlock = some k → w0.heap.size ≤ k
theorem BitsAt.start (w0 : World) : BitsAt w0 w0 (.slice none 0 0) [] := ⟨Own.nil _ _, Fr.refl _ _, fun k e => by simp [Value.ownBlock] at e⟩
theorem BitsAt.no {w0 w w1 : World} {v : Value} {b : List Bool} (h : BitsAt w0 w v b) (hf : Fr No w w1) : BitsAt w0 w1 v b :=
  ⟨h.1.fr hf (fun _ _ k => k), h.2.1.trans hf (fun _ k => k.elim), h.2.2⟩
theorem BitsAt.drew {w0 w : World} {v : Value} {b : List Bool} (h : BitsAt w0 w v b) : BitsAt w0 w.drew v b := h.no ((Fr.refl No w).drew)
theorem put_bitsAt {w0 w : World} {v : Value} {b : List Bool} (h : BitsAt w0 w v b) (hb : b.length ≤ 549755813888) (N : Nat) (width : Int) (m : Nat) (hm : clamp width = m) (hwd : -9223372036854775808 ≤ width ∧ width ≤ 9223372036854775807) :
    Calls Try.prog 65 #[v, .int .u64 (N : Int), .int .i64 width] w fun e w' => ∃ v', e = .returned v' ∧ BitsAt w0 w' v' (b ++ putBits N m) := by
  subst hm
  obtain ⟨A, c, rfl, hA, _, R⟩ := h.1.shape2
  rw [bls_length]
  refine (refPut_any R hA hb N width hwd).mono ?_
  rintro e w' ⟨v', rfl, O, N', F⟩
  exact ⟨v', rfl, O, h.2.1.trans F (fun _ k => k.elim), fun k hk => Nat.le_trans h.2.1.size (N' k hk)⟩
theorem pack_bitsAt {w0 w : World} {v : Value} {b : List Bool} (h : BitsAt w0 w v b) (hb : b.length ≤ 549755813888) :
    Calls Try.prog 26 #[v] w fun e w' => ∃ v', e = .returned v' ∧ Own w' 5 v' (bys (pack b)) ∧ New w v' ∧ BitsAt w0 w' v b := by
  obtain ⟨A, c, e, hA, _, R⟩ := h.1.shape2
  rw [e, bls_length]
  refine (refPack_any R hb).mono ?_
  rintro e' w' ⟨v', rfl, O, N', F⟩
  refine ⟨v', rfl, O, N', ?_⟩
  have := h.no F
  rw [e, bls_length] at this
  exact this
/-- 'b = append(b, x)' behind it. -/
theorem BitsAt.snoc {w0 w w1 : World} {v v1 : Value} {b : List Bool} {x : Bool} (h : BitsAt w0 w v b) (o : Own w1 4 v1 (bls b ++ [.bool x])) (f : Fr (fun k => v.ownBlock = some k) w w1) (a : v1.ownBlock = v.ownBlock ∨ ∃ b, v1.ownBlock = some b ∧ w.heap.size ≤ b) : BitsAt w0 w1 v1 (b ++ [x]) := by
  refine ⟨by rw [bls_append]; exact o, h.2.1.trans f (fun i hi => .inr (h.2.2 i hi)), fun k hk => ?_⟩
  rcases a with e | ⟨j, e, hj⟩
  · rw [e] at hk; exact h.2.2 k hk
  · rw [e] at hk; cases hk; exact Nat.le_trans h.2.1.size hj

def u64 (x : Int) : Nat := (x % 18446744073709551616).toNat
theorem u64_lt (x : Int) : u64 x < 18446744073709551616 := by unfold u64; omega
theorem u64_wrap (x : Int) : IntKind.u64.wrap x = (u64 x : Int) := by rw [IntKind.wrap_u64]; unfold u64; omega
theorem u64_nat (n : Nat) (h : n < 18446744073709551616) : u64 (n : Int) = n := by unfold u64; omega
end Go.Proofs.Ytfnlimcgoeknjaa
