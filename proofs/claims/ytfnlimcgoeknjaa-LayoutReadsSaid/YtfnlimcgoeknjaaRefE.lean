import Derived.Test.YtfnlimcgoeknjaaRefI
namespace Go.Proofs.Ytfnlimcgoeknjaa
open Go.RowKit Go

def rends (b : List Bool) (fail : Bool) : Bool := !fail && decide (b.length ≤ 7) && decide (num (bitAt b) 0 b.length = 0)
theorem num_zero {f : Nat → Bool} {s : Nat} : ∀ m, num f s m = 0 ↔ ∀ j, j < m → f (s + j) = false
  | 0 => by simp [num]
  | m + 1 => by
    simp only [num]
    constructor
    · intro h j hj
      have h1 : num f s m = 0 := by omega
      by_cases e : j = m
      · subst e
        cases hf : f (s + j)
        · rfl
        · rw [hf] at h; simp at h
      · exact (num_zero m).1 h1 j (by omega)
    · intro h
      rw [(num_zero m).2 (fun j hj => h j (by omega)), h m (by omega)]; rfl

end Go.Proofs.Ytfnlimcgoeknjaa
