import Derived.Test.YtfnlimcgoeknjaaPutW
namespace Go.Proofs.Ytfnlimcgoeknjaa
open Go.RowKit Go
attribute [local go_sem] max2_int min2_int max_two min_two

/-- A reader at block g: its bytes l, its place, has it failed? -/
structure Rr (w : World) (g : Nat) (A : Option Addr) (cap : Nat) (l : List UInt8) (at_ : Nat) (fail : Bool) : Prop where
  blk : w.heap[g]? = some (.cells #[.slice A l.length cap, .int .i64 (at_ : Int), .bool fail] 113 (0, 0))
  rd : Rd w A (bys l)
  ne : ∀ ad, A = some ad → ad.block ≠ g
  le : at_ ≤ 8 * l.length
  small : l.length ≤ 549755813888
  lt : ∀ ad, A = some ad → ad.block < w.heap.size
theorem Rr.fr {S : Nat → Prop} {w w1 : World} {g : Nat} {A : Option Addr} {cap : Nat} {l : List UInt8} {at_ : Nat} {fail : Bool} (h : Rr w g A cap l at_ fail) (hf : Fr S w w1) (hg : ¬ S g) (hA : ∀ ad, A = some ad → ¬ S ad.block) : Rr w1 g A cap l at_ fail :=
  ⟨hf.heap h.blk hg, h.rd.fr hf hA, h.ne, h.le, h.small, fun ad e => Nat.lt_of_lt_of_le (h.lt ad e) hf.size⟩
theorem Rr.drewN {w : World} {g : Nat} {A : Option Addr} {cap : Nat} {l : List UInt8} {at_ : Nat} {fail : Bool} (h : Rr w g A cap l at_ fail) (n : Nat) : Rr (w.drewN n) g A cap l at_ fail := ⟨h.blk, h.rd, h.ne, h.le, h.small, h.lt⟩
def RS (g : Nat) : Nat → Prop := fun i => i = g

theorem newReader_any {A : Option Addr} {c : Nat} {l : List UInt8} {w : World} (hl : Rd w A (bys l)) (hA : A = none → c = 0) (hlen : l.length ≤ 549755813888) :
    Calls Try.prog 29 #[.slice A l.length c] w fun e w' => ∃ g B d, e = .returned (.pointer (some ⟨g, 0, none⟩)) ∧ Rr w' g B d l 0 false ∧ w.heap.size ≤ g ∧ (∀ ad, B = some ad → w.heap.size ≤ ad.block) ∧ Fr No w w' := by
  have HC := Lib.hid (clone_any (c := c) hl hA (by omega))
  clear hl hA
  go_enter Try.func29, Try.ntmps29
  go_wp2_with fail
  refine HC.out.mono ?_
  rintro e w1 ⟨v, rfl, O, B, F⟩
  obtain ⟨B1, d, e, _, hb, R⟩ := O.shape
  rw [bys_length] at e
  subst e
  have HO := Lib.hid O
  have HR := Lib.hid R
  have HF := Lib.hid F
  clear O R F HC
  go_wp2
  go_ret
  have hs := HF.out.size
  refine ⟨w1.heap.size, B1, d, rfl, ⟨blk_new w1 _, HR.out.no ((Fr.refl No w1).alloc _), ?_, by omega, hlen, ?_⟩, hs, ?_, HF.out.alloc _⟩
  · intro ad e
    have := HO.out.lt (hb ad e)
    omega
  · intro ad e
    have := HO.out.lt (hb ad e)
    simp; omega
  · intro ad e
    exact B.out _ (hb ad e)

theorem ok_any {w : World} {g : Nat} {A : Option Addr} {cap : Nat} {l : List UInt8} {at_ : Nat} {fail : Bool} (h : Rr w g A cap l at_ fail) :
    Calls Try.prog 41 #[.pointer (some ⟨g, 0, none⟩)] w fun e w' => e = .returned (.bool (!fail)) ∧ w' = w := by
  have c2 : w.cell? ⟨g, 2, none⟩ = some (.bool fail) := by rw [blk_cell h.blk]; rfl
  clear h
  go_enter Try.func41, Try.ntmps41
  go_wp2
  go_ret
  exact ⟨rfl, rfl⟩
theorem okNil_any (w : World) : Calls Try.prog 41 #[.pointer none] w fun e w' => e = .returned (.bool false) ∧ w' = w := by
  go_enter Try.func41, Try.ntmps41
  go_wp2
  go_ret
  exact ⟨rfl, rfl⟩
/-- What is left. -/
def left (l : List UInt8) (at_ : Nat) (fail : Bool) : Nat := if fail = true then 0 else 8 * l.length - at_
theorem left_any {w : World} {g : Nat} {A : Option Addr} {cap : Nat} {l : List UInt8} {at_ : Nat} {fail : Bool} (h : Rr w g A cap l at_ fail) :
    Calls Try.prog 42 #[.pointer (some ⟨g, 0, none⟩)] w fun e w' => e = .returned (.int .i64 (left l at_ fail)) ∧ ∃ n, w' = w.drewN n := by
  have c0 : w.cell? ⟨g, 0, none⟩ = some (.slice A l.length cap) := by rw [blk_cell h.blk]; rfl
  have c1 : w.cell? ⟨g, 1, none⟩ = some (.int .i64 (at_ : Int)) := by rw [blk_cell h.blk]; rfl
  have hle := h.le
  have hsm := h.small
  have HO := Lib.hid (ok_any h)
  clear h
  cases fail
  · have hl : Hid ((left l at_ false : Int) = (l.length : Int) * 8 - (at_ : Int)) := by show (left l at_ false : Int) = (l.length : Int) * 8 - (at_ : Int); unfold left; simp; omega
    go_enter Try.func42, Try.ntmps42
    go_wp2_with fail
    refine HO.out.mono ?_
    rintro e w' ⟨rfl, rfl⟩
    go_wp2
    go_quiet (fail)
    go_wp2
    go_ret
    exact ⟨by rw [hl.out]; rfl, _, rfl⟩
  · go_enter Try.func42, Try.ntmps42
    go_wp2_with fail
    refine HO.out.mono ?_
    rintro e w' ⟨rfl, rfl⟩
    go_wp2
    go_ret
    exact ⟨rfl, 0, rfl⟩
theorem leftNil_any (w : World) : Calls Try.prog 42 #[.pointer none] w fun e w' => e = .returned (.int .i64 0) ∧ w' = w := by
  go_enter Try.func42, Try.ntmps42
  go_wp2_with fail
  refine (okNil_any _).mono ?_
  rintro e w' ⟨rfl, rfl⟩
  go_wp2
  go_ret
  exact ⟨rfl, rfl⟩

/-- What Get does. -/
def over (l : List UInt8) (at_ : Nat) (fail : Bool) (m : Nat) : Bool := decide (left l at_ fail < m)
def got (l : List UInt8) (at_ : Nat) (fail : Bool) (m : Nat) : Nat := if over l at_ fail m = true then 0 else num (bitAt (ofBytes l)) at_ m
def nextAt (l : List UInt8) (at_ : Nat) (fail : Bool) (m : Nat) : Nat := if over l at_ fail m = true then at_ else at_ + m

theorem or_bit (N : Nat) (x : Bool) (hN : N < 9223372036854775808) : bits .or .u64 ((N : Int) * 2) (IntKind.u64.wrap (x.toNat : Int)) = ((2 * N + x.toNat : Nat) : Int) := by
  have hx : x.toNat ≤ 1 := Bool.toNat_le _
  have e : IntKind.u64.wrap (x.toNat : Int) = (x.toNat : Int) := by rw [IntKind.wrap_u64]; omega
  have e2 : ((N : Int) * 2) = ((2 * N : Nat) : Int) := by omega
  rw [e, e2, u64_or_nat _ _ (by omega) (by omega)]
  have := nat_join 1 (2 * N) x.toNat (by omega) (by omega)
  rw [this]

set_option maxRecDepth 20000 in
set_option maxHeartbeats 4000000 in
theorem get_any {w : World} {g : Nat} {A : Option Addr} {cap : Nat} {l : List UInt8} {at_ : Nat} {fail : Bool} (h : Rr w g A cap l at_ fail) (width : Int) :
    Calls Try.prog 35 #[.pointer (some ⟨g, 0, none⟩), .int .i64 width] w fun e w' => e = .returned (.int .u64 (got l at_ fail (clamp width))) ∧ Rr w' g A cap l (nextAt l at_ fail (clamp width)) (fail || over l at_ fail (clamp width)) ∧ Fr (RS g) w w' := by
  have H := Lib.hid h
  obtain ⟨m, hm⟩ : ∃ m, clamp width = m := ⟨_, rfl⟩
  have hm64 : m ≤ 64 := by rw [← hm]; exact clamp_le _
  have HD := Lib.hid (held_any width w)
  rw [← clamp_int, hm] at HD
  have HL := Lib.hid (left_any h)
  rw [hm]
  clear h hm
  obtain ⟨lf, hlf⟩ : ∃ lf, left l at_ fail = lf := ⟨_, rfl⟩
  rw [hlf] at HL
  by_cases ho : lf < m
  · have hov : over l at_ fail m = true := by unfold over; rw [hlf]; exact decide_eq_true ho
    unfold got nextAt
    rw [hov]
    clear hov hlf
    go_enter Try.func35, Try.ntmps35
    go_wp2_with fail
    refine HD.out.mono ?_
    rintro e w' ⟨rfl, rfl⟩
    go_wp2_with fail
    refine HL.out.mono ?_
    rintro e w1 ⟨rfl, n, rfl⟩
    have f2 : (w'.drewN n).frozen? ⟨g, 2, none⟩ = false := blk_free H.out.blk 2
    have c2 : (w'.drewN n).cell? ⟨g, 2, none⟩ = some (.bool fail) := by rw [blk_cell (H.out.drewN n).blk]; rfl
    go_wp2
    go_ret
    refine ⟨rfl, ⟨?_, ?_, H.out.ne, H.out.le, H.out.small, fun ad e => by simpa [World.setCell] using H.out.lt ad e⟩, ((Fr.refl (RS g) w').drewN n).setCell (p := ⟨g, 2, none⟩) (.inl rfl) _⟩
    · rw [blk_set (H.out.drewN n).blk]; simp
    · exact H.out.rd.fr (((Fr.refl (RS g) w').drewN n).setCell (p := ⟨g, 2, none⟩) (.inl rfl) _) (fun ad e => H.out.ne ad e)
  · have hov : over l at_ fail m = false := by unfold over; rw [hlf]; exact decide_eq_false ho
    unfold got nextAt
    rw [hov]
    simp only [Bool.false_eq_true, if_false, Bool.or_false]
    have hlf2 : 0 < m → fail = false ∧ at_ + m ≤ 8 * l.length := by
      intro h0
      unfold left at hlf
      have := H.out.le
      cases fail
      · simp at hlf; exact ⟨rfl, by omega⟩
      · simp at hlf; omega
    have HLF := Lib.hid hlf2
    clear hov hlf hlf2
    go_enter Try.func35, Try.ntmps35
    go_wp2_with fail
    refine HD.out.mono ?_
    rintro e w' ⟨rfl, rfl⟩
    go_wp2_with fail
    refine HL.out.mono ?_
    rintro e w1 ⟨rfl, n, rfl⟩
    go_wp2
    go_loopg [5, 18] m (fun gk r i wr => ∃ (k : Nat), k + gk = m ∧ i = .int .i64 k ∧ r = .int .u64 (num (bitAt (ofBytes l)) at_ k : Nat) ∧ Rr wr g A cap l (at_ + k) fail ∧ Fr (RS g) w' wr)
    case atStart => exact ⟨0, by omega, rfl, rfl, H.out.drewN n, (Fr.refl _ w').drewN n⟩
    case round =>
      obtain ⟨k, hk, rfl, rfl, R, F⟩ := hrel
      by_cases hkm : k < m
      · obtain ⟨hf, hle⟩ := HLF.out (by omega)
        subst hf
        obtain ⟨a, ha⟩ : ∃ a, at_ + k = a := ⟨_, rfl⟩
        have hnum := num_lt (bitAt (ofBytes l)) at_ k
        have hsucc : Hid (num (bitAt (ofBytes l)) at_ (k + 1) = 2 * num (bitAt (ofBytes l)) at_ k + (bitAt (ofBytes l) a).toNat) := by
          show num (bitAt (ofBytes l)) at_ (k + 1) = 2 * num (bitAt (ofBytes l)) at_ k + (bitAt (ofBytes l) a).toNat
          rw [← ha]; rfl
        have hn63 : num (bitAt (ofBytes l)) at_ k < 9223372036854775808 := Nat.lt_of_lt_of_le hnum (by
          have : 2 ^ k ≤ 2 ^ 63 := Nat.pow_le_pow_right (by omega) (by omega)
          exact this)
        clear hnum
        obtain ⟨N, hN⟩ : ∃ N, num (bitAt (ofBytes l)) at_ k = N := ⟨_, rfl⟩
        rw [hN] at hn63 hsucc ⊢
        rw [ha] at R
        obtain ⟨d, hd⟩ : ∃ d, a / 8 = d := ⟨_, rfl⟩
        obtain ⟨t, ht⟩ : ∃ t, 7 - a % 8 = t := ⟨_, rfl⟩
        have hdl : d < l.length := by omega
        obtain ⟨ad, y, rfl, hcy, hy⟩ := R.rd.byte' hdl
        have hbit : bitAt (ofBytes l) a = y.toNat.testBit t := by rw [bitAt_ofBytes, hd, ht, hy.out]
        obtain ⟨x, hx⟩ : ∃ x, y.toNat.testBit t = x := ⟨_, rfl⟩
        have e1 : bits .and .u8 ((y.toNat : Int) / 2 ^ t) 1 = (x.toNat : Int) := by
          rw [← hx]
          have e : ((y.toNat : Int) / 2 ^ t) = ((y.toNat / 2 ^ t : Nat) : Int) := by simp
          have h := u8_and_nat (y.toNat / 2 ^ t) 1 (Nat.lt_of_le_of_lt (Nat.div_le_self _ _) y.toNat_lt) (by omega)
          rw [e]
          rw [show (1 : Int) = ((1 : Nat) : Int) from rfl, h, Nat.and_one_is_mod, Nat.testBit_eq_decide_div_mod_eq]
          rcases Nat.mod_two_eq_zero_or_one (y.toNat / 2 ^ t) with h | h <;> rw [h] <;> rfl
        have c0 : wr.cell? ⟨g, 0, none⟩ = some (.slice (some ad) l.length cap) := by rw [blk_cell R.blk]; rfl
        have c1 : wr.cell? ⟨g, 1, none⟩ = some (.int .i64 (a : Int)) := by rw [blk_cell R.blk]; rfl
        have f1 : wr.frozen? ⟨g, 1, none⟩ = false := blk_free R.blk 1
        have hsm := R.small
        have i1 : (a : Int).tdiv 8 = (d : Int) := by rw [Int.tdiv_eq_ediv_of_nonneg (by omega)]; omega
        have i2 : IntKind.i64.wrap (d : Int) = (d : Int) := IntWalk.i64_in _ (by omega)
        have i3 : (0 : Int) ≤ (d : Int) := by omega
        have i4 : (d : Int) < (l.length : Int) := by omega
        have i5 : IntKind.i64.wrap (7 - (a : Int).tmod 8) = (t : Int) := by
          rw [Int.tmod_eq_emod_of_nonneg (Int.natCast_nonneg _)]
          have e2 : IntKind.i64.wrap (7 - (a : Int) % 8) = 7 - (a : Int) % 8 := IntWalk.i64_in _ (by omega)
          rw [e2]
          omega
        have i6 : (0 : Int) ≤ (t : Int) := by omega
        have ht8 : t < 8 := by omega
        have HBT := Lib.hid hbit
        have HX := Lib.hid hx
        have HR := Lib.hid R
        have HFR := Lib.hid F
        have HNN := Lib.hid hN
        have HAA := Lib.hid ha
        have hle' := Lib.hid hle
        have ha42 : a ≤ 4398046511104 := by omega
        have HTT := Lib.hid ht
        have HE1 := Lib.hid e1
        clear hbit hx R F hN ha hd ht hle e1
        go_wp2
        go_quiet (fail)
        rw [HTT.out, HE1.out, or_bit N x hn63]
        obtain ⟨N2, hN2⟩ : ∃ N2 : Nat, 2 * N + x.toNat = N2 := ⟨_, rfl⟩
        rw [hN2]
        have HN2 := Lib.hid hN2
        have c1' : (wr.drewN nq).cell? ⟨g, 1, none⟩ = some (.int .i64 (a : Int)) := c1
        have f1' : (wr.drewN nq).frozen? ⟨g, 1, none⟩ = false := f1
        have R4 := HR.out.drewN nq
        have F4 := HFR.out.drewN nq
        generalize wr.drewN nq = w4 at *
        clear hN2 c0 c1 f1 hcy
        have HR4 := Lib.hid R4
        have HF4 := Lib.hid F4
        clear R4 F4
        go_wp2
        go_roundg (m - (k + 1))
        case measure => omega
        case rel =>
          have fs : Fr (RS g) w4 (w4.setCell ⟨g, 1, none⟩ (.int .i64 ((a : Int) + 1))) := (Fr.refl (RS g) w4).setCell (p := ⟨g, 1, none⟩) (.inl rfl) _
          refine ⟨k + 1, by omega, by go_num, ?_, ⟨?_, HR4.out.rd.fr fs (fun ad e => HR4.out.ne ad e), HR4.out.ne, by have := hle'.out; omega, HR4.out.small, fun ad e => Nat.lt_of_lt_of_le (HR4.out.lt ad e) fs.size⟩, HF4.out.trans fs (fun i hi => .inl hi)⟩
          · rw [hsucc.out, HBT.out, HX.out, HN2.out]
          · rw [blk_set HR4.out.blk, ← Nat.add_assoc, HAA.out]
            simp
      · obtain rfl : k = m := by omega
        go_wp2
        go_ret
        exact ⟨rfl, R, F⟩

theorem getNil_any (w : World) (width : Int) : Calls Try.prog 35 #[.pointer none, .int .i64 width] w fun e w' => e = .returned (.int .u64 0) ∧ w' = w := by
  obtain ⟨m, hm⟩ : ∃ m, clamp width = m := ⟨_, rfl⟩
  have HD := Lib.hid (held_any width w)
  rw [← clamp_int, hm] at HD
  clear hm
  by_cases h0 : 0 < m
  · go_enter Try.func35, Try.ntmps35
    go_wp2_with fail
    refine HD.out.mono ?_
    rintro e w' ⟨rfl, rfl⟩
    go_wp2_with fail
    refine (leftNil_any _).mono ?_
    rintro e w1 ⟨rfl, rfl⟩
    go_wp2
    go_ret
    exact ⟨rfl, rfl⟩
  · obtain rfl : m = 0 := by omega
    go_enter Try.func35, Try.ntmps35
    go_wp2_with fail
    refine HD.out.mono ?_
    rintro e w' ⟨rfl, rfl⟩
    go_wp2_with fail
    refine (leftNil_any _).mono ?_
    rintro e w1 ⟨rfl, rfl⟩
    go_wp2
    go_loopg [5, 18] 0 (fun gk r i wr => r = .int .u64 0 ∧ i = .int .i64 0 ∧ wr = w1)
    case atStart => exact ⟨rfl, rfl, rfl⟩
    case round =>
      obtain ⟨rfl, rfl, rfl⟩ := hrel
      go_wp2
      go_ret
      exact ⟨rfl, rfl⟩
/-- Is all read, but noughts up to a whole byte? -/
def ends (l : List UInt8) (at_ : Nat) (fail : Bool) : Bool := !fail && decide (8 * l.length - at_ < 8) && decide (num (bitAt (ofBytes l)) at_ (8 * l.length - at_) = 0)
end Go.Proofs.Ytfnlimcgoeknjaa
