import Derived.Test.YtfnlimcgoeknjaaProg
import Derived.Test.YtfnlimcgoeknjaaMem
namespace Go.Proofs.Ytfnlimcgoeknjaa
open Go.RowKit Go

theorem infoU8 : (Try.prog.info? 5).map (fun i => (i.zero, i.size, i.bytes)) = some (some (.int .u8 0), 1, 1) := by kernel_rfl

theorem join_any {A B : Option Addr} {c d : Nat} {l m : List UInt8} {w : World} (hl : Rd w A (bys l)) (hm : Rd w B (bys m)) (hA : A = none → c = 0) (hB : B = none → d = 0) (hlen : l.length + m.length ≤ 140737488355328) :
    Calls Try.prog 12 #[.slice A l.length c, .slice B m.length d] w fun e w' => ∃ v, e = .returned v ∧ Own w' 5 v (bys (l ++ m)) ∧ Hid (∀ k, v.ownBlock = some k → w.heap.size ≤ k) ∧ Fr No w w' := by
  have HL := Lib.hid hl
  have HM := Lib.hid hm
  have HA := Lib.hid hA
  have HB := Lib.hid hB
  clear hl hm hA hB
  go_enter Try.func12, Try.ntmps12
  go_wp2_with (at_builtin; refine own_extend rfl (.tmp 6) (.tmp 7) 22 5 (.int .u8 0) 1 rfl Try.underlying22 infoU8 rfl (by decide) (.slice none 0 0) [] (bys l) A l.length c rfl rfl ?hn ?hA ?hR (bys_one' l) (Own.nil _ _) ?hl ?_)
  case hn => rw [bys_length]
  case hA => exact HA.out
  case hR => exact HL.out
  case hl => simp [bys_length]; omega
  intro v1 w1 o1 f1 a1
  have f1' : Fr No w w1 := f1.mono (fun i hi => by simp [Value.ownBlock] at hi)
  have b1 : ∀ k, v1.ownBlock = some k → w.heap.size ≤ k := by
    intro k hk
    rcases a1 with e | ⟨b, e, hb⟩
    · rw [e] at hk; simp [Value.ownBlock] at hk
    · rw [e] at hk; cases hk; exact hb
  have o1' : Own w1 5 v1 (bys l) := by simpa using o1
  have B1 := Lib.hid b1
  clear o1 f1 a1 b1
  go_wp2_with (at_builtin; refine own_extend rfl (.tmp 9) (.tmp 10) 22 5 (.int .u8 0) 1 rfl Try.underlying22 infoU8 rfl (by decide) v1 (bys l) (bys m) B m.length d rfl rfl ?hn2 ?hB2 ?hR2 (bys_one' m) o1' ?hl2 ?_)
  case hn2 => rw [bys_length]
  case hB2 => exact HB.out
  case hR2 => exact HM.out.no f1'
  case hl2 => simp [bys_length]; omega
  intro v2 w2 o2 f2 a2
  have b2 : ∀ k, v2.ownBlock = some k → w.heap.size ≤ k := by
    intro k hk
    rcases a2 with e | ⟨b, e, hb⟩
    · rw [e] at hk; exact B1.out k hk
    · rw [e] at hk; cases hk; have := f1'.size; omega
  have f2' : Fr No w w2 := f1'.trans f2 (fun i hi => .inr (B1.out i hi))
  rw [← bys_append] at o2
  have B2 := Lib.hid b2
  clear f2 a2 b2 o1'
  go_wp2
  go_ret
  exact ⟨_, rfl, o2, B2, f2'⟩
end Go.Proofs.Ytfnlimcgoeknjaa
