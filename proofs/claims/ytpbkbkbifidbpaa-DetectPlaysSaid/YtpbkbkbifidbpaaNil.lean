import Derived.Test.YtpbkbkbifidbpaaStep
namespace Go.Proofs.Ytpbkbkbifidbpaa
open Go.RowKit Go
attribute [local go_sem] max2_int min2_int max_two min_two

theorem step_nil (A : Option Addr) (n c : Nat) (w : World) :
    Calls Try.prog 10 #[.pointer none, .slice A n c] w fun e w' => e = .returned (.slice none 0 0) ∧ w = w' := by
  go_enter Try.func10, Try.ntmps10
  go_wp2
  go_ret
  exact ⟨rfl, rfl⟩

theorem count_nil (i : Int) (w : World) :
    Calls Try.prog 13 #[.pointer none, .int .i64 i] w fun e w' => e = .returned (.int .i64 0) ∧ w = w' := by
  go_enter Try.func13, Try.ntmps13
  go_wp2
  go_ret
  exact ⟨rfl, rfl⟩

theorem clear_nil (i : Int) (w : World) :
    Calls Try.prog 12 #[.pointer none, .int .i64 i] w fun e w' => e = .returned (.bool false) ∧ ∃ n, w' = w.drewN n := by
  go_enter Try.func12, Try.ntmps12
  go_wp2
  go_quiet (fail)
  go_wp2
  go_ret
  exact ⟨rfl, _, rfl⟩

theorem bys_one (b : UInt8) : bys [b] = [.int .u8 (b.toNat : Int)] := rfl
/-- A block of one byte that was just laid. -/
theorem rd_new1 (w : World) (b : UInt8) (t : TypeId) : Rd (w.alloc (.cells #[.int .u8 (b.toNat : Int)] t)) (some ⟨w.heap.size, 0, none⟩) (bys [b]) :=
  ⟨by simp [bys], fun j hj => ⟨_, rfl, by
    have : j = 0 := by simp [bys] at hj; omega
    subst this
    rw [addr_add0, blk_cell (blk_new w _)]; rfl⟩⟩

theorem Filt.alloc {w : World} {g q : Nat} {cs : List Int} {stay : Int} (h : Filt w g q cs stay) (o : Obj) : Filt (w.alloc o) g q cs stay :=
  ⟨blk_alloc h.1 o, blk_alloc h.2.1 o, h.2.2⟩

/-- One part's count behind a step. -/
def one (b : UInt8) (c : Int) : Int := if b = 0 then min (c + 1) 1001 else 0
theorem one_small (b : UInt8) {c : Int} (h : 0 ≤ c ∧ c ≤ 1001) : 0 ≤ one b c ∧ one b c ≤ 1001 := by unfold one; split <;> omega
theorem small_one {c : Int} (h : 0 ≤ c ∧ c ≤ 1001) : Small [c] := by
  intro j
  match j with
  | 0 => simpa using h
  | j + 1 => simp

/-- A step of a filter of one part, told by one byte in a block that was just laid. -/
theorem step_one {w : World} {g q : Nat} {c stay : Int} (h : Filt w g q [c] stay) (hc : 0 ≤ c ∧ c ≤ 1001) (b : UInt8) (n : Int) (hn : (b.toNat : Int) = n) :
    Calls Try.prog 10 #[.pointer (some ⟨g, 0, none⟩), .slice (some ⟨w.heap.size, 0, none⟩) 1 1] (w.alloc (.cells #[.int .u8 n] 5)) fun e w' => ∃ v, e = .returned v ∧ Own w' 4 v [.bool (decide (stay < one b c))] ∧
      (∀ k, v.ownBlock = some k → w.heap.size ≤ k) ∧ Filt w' g q [one b c] stay ∧ Fr (fun k => k = q) w w' := by
  subst hn
  have hq := blk_lt h.2.1
  refine (step_any (h.alloc (.cells #[.int .u8 (b.toNat : Int)] 5)) (small_one hc) (some ⟨w.heap.size, 0, none⟩) 1 [b] (rd_new1 w b _) (fun ad e _ => by cases e; show w.heap.size ≠ q; omega)).mono ?_
  rintro e w' ⟨v, rfl, ho, hb, hf, hfr⟩
  have e1 : nxt [b] 0 c = one b c := by unfold nxt one; by_cases h0 : b = 0 <;> simp [h0]
  refine ⟨v, rfl, ?_, fun k hk => ?_, ?_, ?_⟩
  · have e2 : bls (told [b] [c] stay [c].length) = [.bool (decide (stay < one b c))] := by simp [told, bls, List.range_succ, e1]
    rw [e2] at ho; exact ho
  · have := hb k hk; simp at this; omega
  · have e2 : upd [b] [c] [c].length = [one b c] := by simp [upd, List.range_succ, e1]
    rw [e2] at hf; exact hf
  · exact ((Fr.refl No w).alloc _).no.trans hfr (fun i hi => .inl hi)

theorem own_bool1 {w : World} {v : Value} {x : Bool} (h : Own w 4 v [.bool x]) : ∃ A c, v = .slice A 1 c ∧ Rd w A (bls [x]) ∧ (∀ ad, A = some ad → v.ownBlock = some ad.block) := by
  obtain ⟨A, c, h1, _, h3, h4⟩ := h.shape
  exact ⟨A, c, h1, h4, h3⟩

theorem rd_newb (w : World) (x : Bool) (t : TypeId) : Rd (w.alloc (.cells #[.bool x] t)) (some ⟨w.heap.size, 0, none⟩) (bls [x]) :=
  ⟨by simp [bls], fun j hj => ⟨_, rfl, by
    have : j = 0 := by simp [bls] at hj; omega
    subst this
    rw [addr_add0, blk_cell (blk_new w _)]; rfl⟩⟩

/-- One answer held against another one in a block that was just laid. -/
theorem bools_one {w : World} {A : Option Addr} {c : Nat} {x : Bool} (y : Bool) (h : Rd w A (bls [x])) :
    Calls Try.prog 16 #[.slice A 1 c, .slice (some ⟨w.heap.size, 0, none⟩) 1 1] (w.alloc (.cells #[.bool y] 4)) fun e w' => e = .returned (.bool (x == y)) ∧ Fr No w w' := by
  refine (bools_any A (some ⟨w.heap.size, 0, none⟩) c 1 [x] [y] _ (h.no ((Fr.refl No w).alloc _)) (rd_newb w y _)).mono ?_
  rintro e w' ⟨rfl, n, rfl⟩
  exact ⟨by simp, ((Fr.refl No w).alloc _).drewN n⟩

set_option maxRecDepth 20000 in
theorem stays_any (w : World) : Calls Try.prog 8 #[] w fun e w' => e = .returned (.bool true) ∧ Fr No w w' := by
  go_enter Try.func8, Try.ntmps8
  go_wp2_with fail
  refine (new_any 1 1 _).mono ?_
  rintro e w1 ⟨g, q, rfl, F1, hg, hq, fr1⟩
  have F1' : Filt w1 g q [0] 1 := F1
  clear F1
  go_wp2_with fail
  refine (step_one F1' (by omega) 0 0 rfl).mono ?_
  rintro e w2 ⟨va, rfl, oa, ba, F2, fr2⟩
  have fr2' : Fr No w w2 := fr1.trans fr2 (fun i hi => .inr (by omega))
  have BA := Lib.hid ba
  clear ba
  go_wp2_with fail
  refine (step_one F2 (by decide) 0 0 rfl).mono ?_
  rintro e w3 ⟨vb, rfl, ob, bb, F3, fr3⟩
  have fr3' : Fr No w w3 := fr2'.trans fr3 (fun i hi => .inr (by omega))
  have q1 := blk_lt F1'.2.1
  have q2 := blk_lt F2.2.1
  have oa3 := oa.fr fr3 (fun k hk e => by have := BA.out k hk; omega)
  have BB := Lib.hid bb
  clear bb
  go_wp2_with fail
  refine (step_one F3 (by decide) 2 2 rfl).mono ?_
  rintro e w4 ⟨vc, rfl, oc, bc, F4, fr4⟩
  have fr4' : Fr No w w4 := fr3'.trans fr4 (fun i hi => .inr (by omega))
  have oa4 := oa3.fr fr4 (fun k hk e => by have := BA.out k hk; omega)
  have ob4 := ob.fr fr4 (fun k hk e => by have := BB.out k hk; omega)
  obtain ⟨Aa, ca, rfl, ra, _⟩ := own_bool1 oa4
  obtain ⟨Ab, cb, rfl, rb, _⟩ := own_bool1 ob4
  obtain ⟨Ac, cc, rfl, rc, _⟩ := own_bool1 oc
  clear oa oa3 oa4 ob ob4 oc bc BA BB F1' F2 F3 F4
  go_wp2_with fail
  refine (bools_one false ra).mono ?_
  rintro e w5 ⟨rfl, fr5⟩
  go_wp2_with fail
  refine (bools_one true (rb.no fr5)).mono ?_
  rintro e w6 ⟨rfl, fr6⟩
  go_wp2_with fail
  refine (bools_one false ((rc.no fr5).no fr6)).mono ?_
  rintro e w7 ⟨rfl, fr7⟩
  go_wp2
  go_ret
  exact ⟨rfl, ((fr4'.trans fr5 (fun _ k => k.elim)).trans fr6 (fun _ k => k.elim)).trans fr7 (fun _ k => k.elim)⟩

theorem detectNil_any (A : Option Addr) (n c : Nat) (i : Int) (w : World) :
    Calls Try.prog 6 #[.slice A n c, .int .i64 i] w fun e w' => e = .returned (.bool true) ∧ Fr No w w' := by
  go_enter Try.func6, Try.ntmps6
  go_wp2_with fail
  refine (stays_any _).mono ?_
  rintro e w1 ⟨rfl, fr1⟩
  go_wp2_with fail
  refine (step_nil _ _ _ _).mono ?_
  rintro e w' ⟨rfl, rfl⟩
  go_wp2_with fail
  refine (clear_nil _ _).mono ?_
  rintro e w' ⟨rfl, m, rfl⟩
  go_wp2_with fail
  refine (count_nil _ _).mono ?_
  rintro e w' ⟨rfl, rfl⟩
  go_wp2
  go_ret
  exact ⟨rfl, fr1.drewN m⟩
end Go.Proofs.Ytpbkbkbifidbpaa
