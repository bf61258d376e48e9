import Derived.Test.YtpbkbkbifidbpaaProg
import Derived.Test.YtpbkbkbifidbpaaMem
namespace Go.Proofs.Ytpbkbkbifidbpaa
open Go.RowKit Go

/-- A filter: at block g, its counts at block q. -/
def Filt (w : World) (g q : Nat) (cs : List Int) (stay : Int) : Prop :=
  w.heap[g]? = some (.cells #[.slice (some ⟨q, 0, none⟩) cs.length cs.length, .int .i64 stay] 43 (0, 0)) ∧ w.heap[q]? = some (.cells (ints .i64 cs).toArray 2 (0, 0)) ∧ g ≠ q ∧ cs.length ≤ 16
theorem Filt.fr {S : Nat → Prop} {w w1 : World} {g q : Nat} {cs : List Int} {stay : Int} (h : Filt w g q cs stay) (hf : Fr S w w1) (hg : ¬ S g) (hq : ¬ S q) : Filt w1 g q cs stay :=
  ⟨hf.heap h.1 hg, hf.heap h.2.1 hq, h.2.2⟩
theorem Filt.cells {w : World} {g q : Nat} {cs : List Int} {stay : Int} (h : Filt w g q cs stay) :
    w.cell? ⟨g, 0, none⟩ = some (.slice (some ⟨q, 0, none⟩) cs.length cs.length) ∧ w.cell? ⟨g, 1, none⟩ = some (.int .i64 stay) ∧ ∀ j, j < cs.length → w.cell? ⟨q, j, none⟩ = some (.int .i64 (cs.getD j 0)) ∧ w.frozen? ⟨q, j, none⟩ = false := by
  refine ⟨blk_cell h.1 0, blk_cell h.1 1, fun j hj => ⟨?_, blk_free h.2.1 j⟩⟩
  rw [blk_cell h.2.1]
  simp [ints, List.getElem?_eq_getElem hj, List.getD_eq_getElem?_getD]
theorem Filt.set {w : World} {g q : Nat} {cs : List Int} {stay : Int} (h : Filt w g q cs stay) (j : Nat) (x : Int) : Filt (w.setCell ⟨q, j, none⟩ (.int .i64 x)) g q (cs.set j x) stay := by
  obtain ⟨h1, h2, h3, h4⟩ := h
  refine ⟨?_, ?_, h3, by rwa [List.length_set]⟩
  · rw [List.length_set]; exact blk_set_ne h1 h3 _
  · rw [blk_set h2]
    simp [ints, List.map_set]

attribute [local go_sem] max2_int min2_int max_two min_two

theorem infoI64 : (Try.prog.info? 2).map (fun i => (i.zero, i.size, i.bytes)) = some (some (.int .i64 0), 1, 8) := by kernel_rfl

theorem made_ints (k : IntKind) (m : Nat) : madeCells #[.int k 0] m = (ints k (List.replicate m 0)).toArray := by
  apply Array.ext
  · simp [madeCells, ints]
  · intro i h1 h2
    simp [madeCells, ints, Nat.mod_one]

theorem new_any (n stay : Int) (w : World) :
    Calls Try.prog 9 #[.int .i64 n, .int .i64 stay] w fun e w' => ∃ g q, e = .returned (.pointer (some ⟨g, 0, none⟩)) ∧ Filt w' g q (List.replicate (min (max n 0) 16).toNat 0) (min (max stay 0) 1000) ∧ w.heap.size ≤ g ∧ w.heap.size ≤ q ∧ Fr No w w' := by
  obtain ⟨m, hm⟩ := Int.eq_ofNat_of_zero_le (show 0 ≤ min (max n 0) 16 by omega)
  have hm16 : m ≤ 16 := by omega
  have hmk := run_make_row' (P := Try.prog) 41 2 (.int .i64 0) 8 Try.underlying41 infoI64 rfl .i64 .i64 m (by omega) (by omega)
  go_enter Try.func9, Try.ntmps9
  go_wp2
  have hcells := made_ints .i64 m
  go_ret
  refine ⟨w.heap.size + 1, w.heap.size, rfl, ⟨?_, ?_, by omega, by simp; omega⟩, by omega, by omega, ((Fr.refl _ _).alloc _).alloc _⟩
  · have := blk_new (w.alloc (.cells (madeCells #[.int .i64 0] m) 2)) (.cells #[.slice (some ⟨w.heap.size, 0, none⟩) m m, .int .i64 (min (max stay 0) 1000)] 43)
    simpa [hm] using this
  · have := blk_alloc (blk_new w (.cells (madeCells #[.int .i64 0] m) 2)) (.cells #[.slice (some ⟨w.heap.size, 0, none⟩) m m, .int .i64 (min (max stay 0) 1000)] 43)
    rw [hcells] at this
    rw [hm, hcells]
    exact this

def cnt (cs : List Int) (i : Int) : Int := if 0 ≤ i then cs.getD i.toNat 0 else 0
theorem cnt_neg {cs : List Int} {i : Int} (h : i < 0) : cnt cs i = 0 := by unfold cnt; rw [if_neg (by omega)]
theorem cnt_nat (cs : List Int) (k : Nat) : cnt cs k = cs.getD k 0 := by unfold cnt; rw [if_pos (by omega)]; simp
theorem cnt_out {cs : List Int} {k : Nat} (h : cs.length ≤ k) : cnt cs k = 0 := by rw [cnt_nat]; simp [List.getD_eq_getElem?_getD, List.getElem?_eq_none h]

theorem count_any {w : World} {g q : Nat} {cs : List Int} {stay : Int} (h : Filt w g q cs stay) (i : Int) :
    Calls Try.prog 13 #[.pointer (some ⟨g, 0, none⟩), .int .i64 i] w fun e w' => e = .returned (.int .i64 (cnt cs i)) ∧ w = w' := by
  obtain ⟨c0, c1, c2⟩ := h.cells
  have h16 := h.2.2.2
  by_cases h0 : i < 0
  · have R := Lib.hid (cnt_neg (cs := cs) h0)
    go_enter Try.func13, Try.ntmps13
    go_wp2
    go_ret
    exact ⟨by rw [R.out]; rfl, rfl⟩
  · obtain ⟨k, rfl⟩ := Int.eq_ofNat_of_zero_le (show 0 ≤ i by omega)
    by_cases h1 : k < cs.length
    · have ck := (c2 k h1).1
      have R := Lib.hid (cnt_nat cs k)
      go_enter Try.func13, Try.ntmps13
      go_wp2
      go_ret
      exact ⟨by rw [R.out, List.getD_eq_getElem?_getD, List.getElem?_eq_getElem h1]; rfl, rfl⟩
    · have R := Lib.hid (cnt_out (cs := cs) (k := k) (by omega))
      go_enter Try.func13, Try.ntmps13
      go_wp2
      go_ret
      exact ⟨by rw [R.out]; rfl, rfl⟩

theorem Filt.drewN {w : World} {g q : Nat} {cs : List Int} {stay : Int} (h : Filt w g q cs stay) (n : Nat) : Filt (w.drewN n) g q cs stay := h
theorem count_q {w : World} {g q : Nat} {cs : List Int} {stay : Int} (h : Filt w g q cs stay) (i : Int) (n : Nat) :
    Calls Try.prog 13 #[.pointer (some ⟨g, 0, none⟩), .int .i64 i] (w.drewN n) fun e w' => e = .returned (.int .i64 (cnt cs i)) ∧ w' = w.drewN n :=
  (count_any (h.drewN n) i).mono fun _ _ ⟨h1, h2⟩ => ⟨h1, h2.symm⟩

theorem clear_any {w : World} {g q : Nat} {cs : List Int} {stay : Int} (h : Filt w g q cs stay) (i : Int) :
    Calls Try.prog 12 #[.pointer (some ⟨g, 0, none⟩), .int .i64 i] w fun e w' => e = .returned (.bool (decide (stay < cnt cs i))) ∧ ∃ n, w' = w.drewN n := by
  obtain ⟨c0, c1, c2⟩ := h.cells
  have H := Lib.hid h
  clear h c2
  go_enter Try.func12, Try.ntmps12
  go_wp2
  go_quiet ((go_at_call 13; exact Calls.quiet_of_same (count_q H.out i _)))
  go_wp2
  go_ret
  exact ⟨rfl, _, rfl⟩

/-- How many noughts there are from the end on; no more than 1001. -/
def trail0 : List UInt8 → Nat
  | [] => 0
  | b :: r => if b = 0 then (if trail0 r < 1001 then trail0 r + 1 else 1001) else 0
/-- The history's count: of its newest ones. -/
def hist (l : List UInt8) : Nat := trail0 l.reverse
theorem trail0_le (l : List UInt8) : trail0 l ≤ 1001 := by
  cases l with
  | nil => simp [trail0]
  | cons b r => simp only [trail0]; (repeat' split) <;> omega

/-- What the loop from place i on, with n counted, comes to. -/
def back (l : List UInt8) : Nat → Nat → Nat
  | 0, n => n
  | i + 1, n => if l.getD i 0 = 0 ∧ n < 1001 then back l i (n + 1) else n

set_option maxRecDepth 20000 in
theorem rcount_any (A : Option Addr) (c : Nat) (l : List UInt8) (w : World) (h : Rd w A (bys l)) :
    Calls Try.prog 14 #[.slice A l.length c] w fun e w' => e = .returned (.int .i64 (back l l.length 0)) ∧ w = w' := by
  have hl := h.1
  rw [bys_length] at hl
  have H := Lib.hid h
  clear h
  go_enter Try.func14, Try.ntmps14
  go_wp2
  go_loopg [3, 4] l.length (fun k n i wr => ∃ m : Nat, k ≤ l.length ∧ i = .int .i64 ((k : Int) - 1) ∧ n = .int .i64 m ∧ m ≤ 1001 ∧ Hid (back l k m = back l l.length 0) ∧ wr = w)
  case atStart => exact ⟨0, by omega, rfl, rfl, by omega, rfl, rfl⟩
  case round =>
    obtain ⟨m, hk, rfl, rfl, hm, hb, rfl⟩ := hrel
    rcases Nat.eq_zero_or_pos gk with rfl | hpos
    · go_wp2
      go_ret
      exact ⟨by rw [← hb.out]; rfl, rfl⟩
    · obtain ⟨j, rfl⟩ : ∃ j, gk = j + 1 := ⟨gk - 1, by omega⟩
      obtain ⟨ad, b, rfl, hc, hbj⟩ := H.out.byte' (j := j) (by omega)
      by_cases h1 : b = 0
      · have h1' := Lib.hid h1
        rw [h1] at hc
        have hc0 : wr.cell? (ad.add j) = some (.int .u8 0) := hc
        clear h1 hc
        by_cases h2 : m < 1001
        · go_wp2
          go_roundg j
          case measure => omega
          case rel => exact ⟨m + 1, by omega, by go_num, by go_num, by omega, by show back l j (m + 1) = _; rw [← hb.out]; show _ = if l.getD j 0 = 0 ∧ m < 1001 then back l j (m + 1) else m; rw [if_pos ⟨by rw [hbj.out, h1'.out], h2⟩], rfl⟩
        · go_wp2
          go_ret
          exact ⟨by rw [← hb.out]; show _ = Ending.returned (.int .i64 ((if l.getD j 0 = 0 ∧ m < 1001 then back l j (m + 1) else m : Nat) : Int)); rw [if_neg (by omega)]; rfl, rfl⟩
      · have h1' := Lib.hid h1
        have hz : ((b.toNat : Int) == 0) = false := by rw [u8_zero]; simp [h1]
        clear h1
        go_wp2
        go_ret
        exact ⟨by rw [← hb.out]; show _ = Ending.returned (.int .i64 ((if l.getD j 0 = 0 ∧ m < 1001 then back l j (m + 1) else m : Nat) : Int)); rw [if_neg (by rw [hbj.out]; exact fun h => h1'.out h.1)]; rfl, rfl⟩
theorem rclear_any (A : Option Addr) (c : Nat) (l : List UInt8) (stay : Int) (w : World) (h : Rd w A (bys l)) :
    Calls Try.prog 11 #[.slice A l.length c, .int .i64 stay] w fun e w' => e = .returned (.bool (decide (min (max stay 0) 1000 < (back l l.length 0 : Int)))) ∧ w = w' := by
  have C := Lib.hid (rcount_any A c l w h)
  clear h
  by_cases h1 : stay < 0
  · have R := Lib.hid (show min (max stay 0) 1000 = 0 by omega)
    go_enter Try.func11, Try.ntmps11
    go_wp2_with fail
    refine C.out.mono ?_
    rintro e w' ⟨rfl, rfl⟩
    go_wp2
    go_ret
    exact ⟨by rw [R.out]; simp, rfl⟩
  · by_cases h2 : 1000 < stay
    · have R := Lib.hid (show min (max stay 0) 1000 = 1000 by omega)
      go_enter Try.func11, Try.ntmps11
      go_wp2_with fail
      refine C.out.mono ?_
      rintro e w' ⟨rfl, rfl⟩
      go_wp2
      go_ret
      exact ⟨by rw [R.out]; first | rfl | simp, rfl⟩
    · have R := Lib.hid (show min (max stay 0) 1000 = stay by omega)
      go_enter Try.func11, Try.ntmps11
      go_wp2_with fail
      refine C.out.mono ?_
      rintro e w' ⟨rfl, rfl⟩
      go_wp2
      go_ret
      exact ⟨by rw [R.out]; rfl, rfl⟩

/-- Two lists of answers: held against each other from the front. -/
theorem eq_take {α : Type} [BEq α] [LawfulBEq α] {l m : List α} (h : l.length = m.length) {k : Nat} (hk : k < l.length) (ht : l.take k = m.take k) (z : α) : l.take (k + 1) = m.take (k + 1) ↔ l.getD k z = m.getD k z := by
  have hk2 : k < m.length := by omega
  rw [List.take_succ_eq_append_getElem hk, List.take_succ_eq_append_getElem hk2, ht]
  have e1 : l.getD k z = l[k] := by simp [List.getD_eq_getElem?_getD, List.getElem?_eq_getElem hk]
  have e2 : m.getD k z = m[k] := by simp [List.getD_eq_getElem?_getD, List.getElem?_eq_getElem hk2]
  rw [e1, e2]
  simp only [List.append_cancel_left_eq, List.cons.injEq, and_true]

set_option maxRecDepth 20000 in
theorem bools_any (A B : Option Addr) (c d : Nat) (l m : List Bool) (w : World) (h : Rd w A (bls l)) (k : Rd w B (bls m)) :
    Calls Try.prog 16 #[.slice A l.length c, .slice B m.length d] w fun e w' => e = .returned (.bool (l == m)) ∧ ∃ n, w' = w.drewN n := by
  have hl := h.1
  have hm := k.1
  rw [bls_length] at hl hm
  have H := Lib.hid h
  have K := Lib.hid k
  clear h k
  by_cases hlen : l.length = m.length
  · have R : ∀ j, (l.take j = m.take j) → l.length ≤ j → (l == m) = true := by
      intro j hj hle
      rw [List.take_of_length_le hle, List.take_of_length_le (by omega)] at hj
      rw [hj]; simp
    have R' : ∀ j, j < l.length → l.take j = m.take j → l.getD j false ≠ m.getD j false → (l == m) = false := by
      intro j hj _ hne
      rw [beq_eq_false_iff_ne]
      rintro rfl
      exact hne rfl
    have HR := Lib.hid (And.intro R R')
    clear R R'
    have hb : ((l.length : Int) != (m.length : Int)) = false := by simp [hlen]
    have HL := Lib.hid hlen
    clear hlen
    go_enter Try.func16, Try.ntmps16
    go_wp2
    go_loopg [5] l.length (fun g i wr => ∃ j n : Nat, j + g = l.length ∧ i = .int .i64 j ∧ Hid (l.take j = m.take j) ∧ wr = w.drewN n)
    case atStart => exact ⟨0, 0, by omega, rfl, by show l.take 0 = m.take 0; simp, rfl⟩
    case round =>
      obtain ⟨j, n, hj, rfl, ht, rfl⟩ := hrel
      by_cases hlt : j < l.length
      · obtain ⟨ad, rfl, hc⟩ := H.out.bool hlt
        obtain ⟨bd, rfl, hd⟩ := K.out.bool (j := j) (by rw [← HL.out]; exact hlt)
        have hjm : j < m.length := by rw [← HL.out]; exact hlt
        have i1 : (0 : Int) ≤ (j : Int) := by omega
        have i2 : (j : Int) < (l.length : Int) := by omega
        have i3 : (j : Int) < (m.length : Int) := by omega
        obtain ⟨x, hx⟩ : ∃ x, l.getD j false = x := ⟨_, rfl⟩
        obtain ⟨y, hy⟩ : ∃ y, m.getD j false = y := ⟨_, rfl⟩
        rw [hx] at hc
        rw [hy] at hd
        have HX := Lib.hid hx
        have HY := Lib.hid hy
        clear hx hy
        cases x <;> cases y
        case false.false =>
          go_wp2
          go_quiet (fail)
          go_wp2
          go_roundg (l.length - (j + 1))
          case measure => omega
          case rel => exact ⟨j + 1, _, by omega, by go_num, (eq_take HL.out hlt ht.out false).2 (by rw [HX.out, HY.out]), by first | rfl | exact World.drewN_drewN ..⟩
        case true.true =>
          go_wp2
          go_quiet (fail)
          go_wp2
          go_roundg (l.length - (j + 1))
          case measure => omega
          case rel => exact ⟨j + 1, _, by omega, by go_num, (eq_take HL.out hlt ht.out false).2 (by rw [HX.out, HY.out]), by first | rfl | exact World.drewN_drewN ..⟩
        all_goals
          go_wp2
          go_quiet (fail)
          go_wp2
          go_ret
          exact ⟨by rw [HR.out.2 j hlt ht.out (by rw [HX.out, HY.out]; decide)]; rfl, _, by first | rfl | exact World.drewN_drewN ..⟩
      · go_wp2
        go_ret
        exact ⟨by rw [HR.out.1 j ht.out (by omega)]; rfl, n, rfl⟩
  · have hb : ((l.length : Int) != (m.length : Int)) = true := by simp; omega
    have R : (l == m) = false := by
      rw [beq_eq_false_iff_ne]
      rintro rfl
      exact hlen rfl
    have HR := Lib.hid R
    clear R hlen
    go_enter Try.func16, Try.ntmps16
    go_wp2
    go_ret
    exact ⟨by rw [HR.out]; rfl, 0, rfl⟩
end Go.Proofs.Ytpbkbkbifidbpaa
