import Derived.Test.YtfnlimcgoeknjaaBytesW
import Derived.Laws.BytesArg
import Derived.Laws.IdiomStrings
import Derived.Laws.Strings
namespace Go.Proofs.Ytfnlimcgoeknjaa
open Go.RowKit Go

theorem conv_bytes {w : World} {A : Option Addr} {l : List UInt8} (h : Rd w A (bys l)) (c : Nat) :
    (convert 22 9 (.slice A l.length c)).run Try.prog w = .ok (.string ⟨l.toArray⟩) w := by
  cases A with
  | none =>
    have hl : l = [] := by
      cases l with
      | nil => rfl
      | cons x r => obtain ⟨ad, e, _⟩ := h.2 0 (by simp [bys]); cases e
    subst hl
    exact run_convert_bytes_nil w 22 5 Try.underlying22 Try.underlying5 0 c 9 Try.underlying9
  | some ad =>
    refine run_convert_bytes_back w 22 9 5 ad c l Try.underlying22 Try.underlying5 Try.underlying9 (fun j hj => ?_)
    obtain ⟨a, e, hc⟩ := h.byte hj
    cases e
    rw [hc]
    simp [List.getD_eq_getElem?_getD, List.getElem?_eq_getElem hj]

theorem bytesEqual_any {A B : Option Addr} {c d : Nat} {l m : List UInt8} {w : World} (hl : Rd w A (bys l)) (hm : Rd w B (bys m)) :
    Calls Try.prog 67 #[.slice A l.length c, .slice B m.length d] w fun e w' => e = .returned (.bool (decide (l = m))) ∧ w' = w := by
  have h1 := conv_bytes hl c
  have h2 := conv_bytes hm d
  clear hl hm
  go_enter Try.func67, Try.ntmps67
  go_wp2
  go_ret
  have e : (l == m) = decide (l = m) := by rw [Bool.eq_iff_iff]; simp
  exact ⟨by rw [← e]; rfl, rfl⟩
end Go.Proofs.Ytfnlimcgoeknjaa
