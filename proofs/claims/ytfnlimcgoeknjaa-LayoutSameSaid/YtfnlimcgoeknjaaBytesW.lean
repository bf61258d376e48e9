import Derived.Test.YtfnlimcgoeknjaaProg
import Derived.Test.YtfnlimcgoeknjaaMem
import Derived.Test.YtfnlimcgoeknjaaJoin
import Derived.Laws.BytesArg
import Derived.Laws.IdiomStrings
import Derived.Laws.CopyOwn
import Derived.Laws.Strings
import Derived.Lib.LazyBuf
namespace Go.Proofs.Ytfnlimcgoeknjaa
open Go.RowKit Go

/-- Is it the same byte for byte, so far? -/
def same (l m : List UInt8) (k : Nat) : Prop := ∀ j, j < k → l.getD j 0 = m.getD j 0
theorem same_all {l m : List UInt8} (h : l.length = m.length) (hs : same l m l.length) : l = m := by
  apply List.ext_getElem h
  intro i h1 h2
  have := hs i h1
  simpa [List.getD_eq_getElem?_getD, List.getElem?_eq_getElem h1, List.getElem?_eq_getElem h2] using this

theorem refBytes_any {A B : Option Addr} {c d : Nat} {l m : List UInt8} {w : World} (hl : Rd w A (bys l)) (hm : Rd w B (bys m)) :
    Calls Try.prog 18 #[.slice A l.length c, .slice B m.length d] w fun e w' => e = .returned (.bool (decide (l = m))) ∧ Fr No w w' := by
  have h1 := hl.1
  have h2 := hm.1
  rw [bys_length] at h1 h2
  have HL := Lib.hid hl
  have HM := Lib.hid hm
  clear hl hm
  by_cases hlen : l.length = m.length
  · have HE := Lib.hid hlen
    go_enter Try.func18, Try.ntmps18
    go_wp2
    go_loopg [5] l.length (fun g i wr => ∃ k, k + g = l.length ∧ i = .int .i64 k ∧ Hid (same l m k) ∧ Fr No w wr)
    case atStart => exact ⟨0, by omega, rfl, (fun j h => absurd h (by omega) : same l m 0), Fr.refl _ _⟩
    case round =>
      obtain ⟨k, hk, rfl, S, F⟩ := hrel
      by_cases hlt : k < l.length
      · obtain ⟨ad, x, rfl, cx, hx⟩ := (HL.out.no F).byte' hlt
        obtain ⟨bd, y, rfl, cy, hy⟩ := (HM.out.no F).byte' (show k < m.length by have := HE.out; omega)
        have i4 : (k : Int) < (m.length : Int) := by have := HE.out; omega
        by_cases hxy : x = y
        · have e1 : (((x.toNat : Int)) != (y.toNat : Int)) = false := by rw [hxy]; simp
          have S' : Hid (same l m (k + 1)) := by
            show same l m (k + 1)
            intro j hj
            by_cases e : j = k
            · subst e; rw [hx.out, hy.out, hxy]
            · exact S.out j (by omega)
          clear hxy
          go_wp2
          go_quiet (fail)
          go_wp2
          go_roundg (l.length - (k + 1))
          case measure => omega
          case rel => exact ⟨k + 1, by omega, by go_num, S', F.drewN _⟩
        · have e1 : (((x.toNat : Int)) != (y.toNat : Int)) = true := by
            simp only [bne_iff_ne, ne_eq]
            intro h
            exact hxy (UInt8.toNat.inj (by omega))
          have R : Hid (decide (l = m) = false) := by
            show decide (l = m) = false
            rw [decide_eq_false_iff_not]
            rintro rfl
            exact hxy (by rw [← hx.out, ← hy.out])
          clear hxy
          go_wp2
          go_quiet (fail)
          go_wp2
          go_ret
          exact ⟨by rw [R.out]; rfl, F.drewN _⟩
      · obtain rfl : k = l.length := by omega
        have R : Hid (decide (l = m) = true) := by
          show decide (l = m) = true
          rw [decide_eq_true_iff]
          exact same_all HE.out S.out
        go_wp2
        go_ret
        exact ⟨by rw [R.out]; rfl, F⟩
  · have R : Hid (decide (l = m) = false) := by
      show decide (l = m) = false
      rw [decide_eq_false_iff_not]
      rintro rfl
      exact hlen rfl
    go_enter Try.func18, Try.ntmps18
    go_wp2
    go_ret
    exact ⟨by rw [R.out]; rfl, Fr.refl _ _⟩

theorem own_fresh (w : World) : Own (w.alloc (.cells #[] 5)) 5 (.slice (some ⟨w.heap.size, 0, none⟩) 0 0) [] :=
  ⟨rfl, .inr ⟨w.heap.size, 0, #[], rfl, Nat.zero_le _, blk_new w _, Nat.le_refl _, Nat.zero_le _, rfl, rfl⟩⟩
set_option maxRecDepth 20000 in
set_option maxHeartbeats 1000000 in
theorem clone_any {A : Option Addr} {c : Nat} {l : List UInt8} {w : World} (hl : Rd w A (bys l)) (hA : A = none → c = 0) (hlen : l.length ≤ 140737488355328) :
    Calls Try.prog 66 #[.slice A l.length c] w fun e w' => ∃ v, e = .returned v ∧ Own w' 5 v (bys l) ∧ Hid (∀ k, v.ownBlock = some k → w.heap.size ≤ k) ∧ Fr No w w' := by
  cases A with
  | none =>
    have e : l = [] := by
      cases l with
      | nil => rfl
      | cons x r => obtain ⟨ad, e, _⟩ := hl.2 0 (by simp [bys]); cases e
    subst e
    obtain rfl := hA rfl
    clear hl hA
    have hn : ∀ w, (binOp .eql 22 (.slice none 0 0) (.slice none 0 0)).run Try.prog w = .ok (.bool true) w := fun w => Lib.run_eql_slice_nil w 22 5 none 0 0 0 0 Try.underlying22
    go_enter Try.func66, Try.ntmps66
    go_wp2
    go_ret
    exact ⟨_, rfl, Own.nil _ _, (fun k h => by simp [Value.ownBlock] at h), Fr.refl _ _⟩
  | some ad =>
    have HL := Lib.hid hl
    clear hl hA
    have hn : ∀ w, (binOp .eql 22 (.slice (some ad) l.length c) (.slice none 0 0)).run Try.prog w = .ok (.bool false) w := fun w => Lib.run_eql_slice_nil w 22 5 (some ad) l.length c 0 0 Try.underlying22
    go_enter Try.func66, Try.ntmps66
    go_wp2_with (at_builtin; go_loud (refine own_extend rfl (.tmp 5) (.tmp 6) 22 5 (.int .u8 0) 1 rfl Try.underlying22 infoU8 rfl (by decide) (.slice (some ⟨w.heap.size, 0, none⟩) 0 0) [] (bys l) (some ad) l.length c rfl rfl ?hn (fun h => by cases h) ?hR (bys_one' l) ?hO ?hl ?_))
    case hn => rw [bys_length]
    case hR => exact HL.out.no ((Fr.refl No w).alloc _)
    case hO => exact own_fresh w
    case hl => rw [bys_length]; simp; omega
    intro v1 w1 o1 f1 a1
    have f1' : Fr No w w1 := ((Fr.refl No w).alloc _).trans f1 (fun i hi => .inr (by simp only [Value.ownBlock, Option.some.injEq] at hi; omega))
    have b1 : ∀ k, v1.ownBlock = some k → w.heap.size ≤ k := by
      intro k hk
      rcases a1 with e | ⟨b, e, hb⟩
      · rw [e] at hk; simp only [Value.ownBlock, Option.some.injEq] at hk; omega
      · rw [e] at hk; cases hk; exact Nat.le_trans (Nat.le_succ _) (by simpa using hb)
    have o1' : Own w1 5 v1 (bys l) := by simpa using o1
    have B1 := Lib.hid b1
    clear o1 f1 a1 b1
    go_wp2
    go_ret
    exact ⟨_, rfl, o1', B1, f1'⟩
end Go.Proofs.Ytfnlimcgoeknjaa
