import Derived.Test.YtngjfebndhmlmaaSameI
import Derived.Test.YtngjfebndhmlmaaMsgP
namespace Go.Proofs.Ytngjfebndhmlmaa
open Go.RowKit Go

def msame (m n : Msg) : Bool := decide (m.k = n.k) && decide (m.t = n.t) && decide (m.tm = n.tm) && decide (m.d = n.d) && decide (m.a = n.a) && (m.wh == n.wh) && decide (m.tr = n.tr)
theorem msame_self (m : Msg) : msame m m = true := by simp [msame]
theorem msame_iff (m n : Msg) : msame m n = true ↔ m = n := by
  obtain ⟨k1, t1, m1, d1, a1, b1, r1⟩ := m
  obtain ⟨k2, t2, m2, d2, a2, b2, r2⟩ := n
  simp [msame, and_assoc]

set_option maxRecDepth 20000 in
set_option maxHeartbeats 4000000 in
theorem refSame_any {A B : Option Addr} {c d : Nat} {m n : Msg} {w : World} (hA : Rd w A (ints .i64 m.tr)) (hB : Rd w B (ints .i64 n.tr)) :
    Calls Try.prog 18 #[mval m A c, mval n B d] w fun e w' => e = .returned (.bool (msame m n)) ∧ Fr No w w' := by
  obtain ⟨k1, t1, m1, d1, a1, b1, r1⟩ := m
  obtain ⟨k2, t2, m2, d2, a2, b2, r2⟩ := n
  unfold mval
  simp only at hA hB ⊢
  have F0 := ((Fr.refl No w).alloc (.cells #[.int .u8 (k1 : Int), .int .i64 t1, .int .i64 m1, .int .i64 d1, .int .i64 a1, .bool b1, .slice A r1.length c] 34)).alloc (.cells #[.int .u8 (k2 : Int), .int .i64 t2, .int .i64 m2, .int .i64 d2, .int .i64 a2, .bool b2, .slice B r2.length d] 34)
  have HF0 := Lib.hid F0
  go_enter Try.func18, Try.ntmps18
  by_cases hne : k1 = k2
  · subst hne
    by_cases hne : t1 = t2
    · subst hne
      by_cases hne : m1 = m2
      · subst hne
        by_cases hne : d1 = d2
        · subst hne
          by_cases hne : a1 = a2
          · subst hne
            by_cases hne : b1 = b2
            · subst hne
              have HS := Lib.hid (refInts_any (c := c) (d := d) (hA.no F0) (hB.no F0))
              clear hA hB F0
              go_wp2_with fail
              refine HS.out.mono ?_
              rintro e w1 ⟨rfl, F1⟩
              go_wp2
              go_ret
              exact ⟨by simp [msame], HF0.out.trans F1 (fun _ k => k.elim)⟩
            · clear hA hB F0
              have h5 : (b1 == b2) = false := by simpa using hne
              go_wp2
              go_ret
              exact ⟨by simp [msame, hne], HF0.out⟩
          · clear hA hB F0
            skip
            go_wp2
            go_ret
            exact ⟨by simp [msame, hne], HF0.out⟩
        · clear hA hB F0
          skip
          go_wp2
          go_ret
          exact ⟨by simp [msame, hne], HF0.out⟩
      · clear hA hB F0
        skip
        go_wp2
        go_ret
        exact ⟨by simp [msame, hne], HF0.out⟩
    · clear hA hB F0
      skip
      go_wp2
      go_ret
      exact ⟨by simp [msame, hne], HF0.out⟩
  · clear hA hB F0
    have h0 : ¬ (k1 : Int) = (k2 : Int) := by omega
    go_wp2
    go_ret
    exact ⟨by simp [msame, hne], HF0.out⟩

set_option maxRecDepth 20000 in
set_option maxHeartbeats 4000000 in
theorem msgSame_any {A B : Option Addr} {c d : Nat} {m n : Msg} {w : World} (hA : Rd w A (ints .i64 m.tr)) (hB : Rd w B (ints .i64 n.tr)) :
    Calls Try.prog 19 #[mval m A c, mval n B d] w fun e w' => e = .returned (.bool (msame m n)) ∧ Fr No w w' := by
  obtain ⟨k1, t1, m1, d1, a1, b1, r1⟩ := m
  obtain ⟨k2, t2, m2, d2, a2, b2, r2⟩ := n
  unfold mval
  simp only at hA hB ⊢
  have F0 := ((Fr.refl No w).alloc (.cells #[.int .u8 (k1 : Int), .int .i64 t1, .int .i64 m1, .int .i64 d1, .int .i64 a1, .bool b1, .slice A r1.length c] 34)).alloc (.cells #[.int .u8 (k2 : Int), .int .i64 t2, .int .i64 m2, .int .i64 d2, .int .i64 a2, .bool b2, .slice B r2.length d] 34)
  have HF0 := Lib.hid F0
  go_enter Try.func19, Try.ntmps19
  by_cases hne : k1 = k2
  · subst hne
    by_cases hne : t1 = t2
    · subst hne
      by_cases hne : m1 = m2
      · subst hne
        by_cases hne : d1 = d2
        · subst hne
          by_cases hne : a1 = a2
          · subst hne
            by_cases hne : b1 = b2
            · subst hne
              have HS := Lib.hid (slicesInts_any (c := c) (d := d) (hA.no F0) (hB.no F0))
              clear hA hB F0
              go_wp2_with fail
              refine HS.out.mono ?_
              rintro e w1 ⟨rfl, F1⟩
              go_wp2
              go_ret
              exact ⟨by simp [msame], HF0.out.trans F1 (fun _ k => k.elim)⟩
            · clear hA hB F0
              have h5 : (b1 == b2) = false := by simpa using hne
              go_wp2
              go_ret
              exact ⟨by simp [msame, hne], HF0.out⟩
          · clear hA hB F0
            skip
            go_wp2
            go_ret
            exact ⟨by simp [msame, hne], HF0.out⟩
        · clear hA hB F0
          skip
          go_wp2
          go_ret
          exact ⟨by simp [msame, hne], HF0.out⟩
      · clear hA hB F0
        skip
        go_wp2
        go_ret
        exact ⟨by simp [msame, hne], HF0.out⟩
    · clear hA hB F0
      skip
      go_wp2
      go_ret
      exact ⟨by simp [msame, hne], HF0.out⟩
  · clear hA hB F0
    have h0 : ¬ (k1 : Int) = (k2 : Int) := by omega
    go_wp2
    go_ret
    exact ⟨by simp [msame, hne], HF0.out⟩
end Go.Proofs.Ytngjfebndhmlmaa
