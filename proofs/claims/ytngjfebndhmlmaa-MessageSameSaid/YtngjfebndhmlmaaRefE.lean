import Derived.Test.YtngjfebndhmlmaaRefI
namespace Go.Proofs.Ytngjfebndhmlmaa
open Go.RowKit Go

def rends (b : List Bool) (fail : Bool) : Bool := !fail && decide (b.length ≤ 7) && decide (num (bitAt b) 0 b.length = 0)
theorem num_zero {f : Nat → Bool} {s : Nat} : ∀ m, num f s m = 0 ↔ ∀ j, j < m → f (s + j) = false
  | 0 => by simp [num]
  | m + 1 => by
    simp only [num]
    constructor
    · intro h j hj
      have h1 : num f s m = 0 := by omega
      by_cases e : j = m
      · subst e
        cases hf : f (s + j)
        · rfl
        · rw [hf] at h; simp at h
      · exact (num_zero m).1 h1 j (by omega)
    · intro h
      rw [(num_zero m).2 (fun j hj => h j (by omega)), h m (by omega)]; rfl

set_option maxRecDepth 20000 in
set_option maxHeartbeats 4000000 in
theorem inEnd_any {w : World} {g : Nat} {A : Option Addr} {c : Nat} {b : List Bool} {fail : Bool} (h : InR w g A c b fail) :
    Calls Try.prog 38 #[.pointer (some ⟨g, 0, none⟩)] w fun e w' => e = .returned (.bool (rends b fail)) ∧ w' = w := by
  have H := Lib.hid h
  have c0 : w.cell? ⟨g, 0, none⟩ = some (.slice A b.length c) := by rw [blk_cell h.blk]; rfl
  have c1 : w.cell? ⟨g, 1, none⟩ = some (.bool fail) := by rw [blk_cell h.blk]; rfl
  clear h
  cases fail
  · by_cases h7 : b.length ≤ 7
    · go_enter Try.func38, Try.ntmps38
      go_wp2
      go_loopg [3] b.length (fun gk i wr => ∃ (k : Nat), k + gk = b.length ∧ i = .int .i64 (k : Int) ∧ Hid (∀ j, j < k → bitAt b j = false) ∧ wr = w)
      case atStart => exact ⟨0, by omega, rfl, (fun j h => absurd h (by omega) : ∀ j, j < 0 → bitAt b j = false), rfl⟩
      case round =>
        obtain ⟨k, hk, rfl, Z, rfl⟩ := hrel
        by_cases hkb : k < b.length
        · obtain ⟨ad, e, hc⟩ := H.out.rd.bool hkb
          subst e
          obtain ⟨x, hx⟩ : ∃ x, b.getD k false = x := ⟨_, rfl⟩
          rw [hx] at hc
          have hbx : Hid (bitAt b k = x) := hx
          clear hx
          cases x
          · go_wp2
            go_roundg (b.length - (k + 1))
            case measure => omega
            case rel =>
              refine ⟨k + 1, by omega, by go_num, ?_, rfl⟩
              show ∀ j, j < k + 1 → bitAt b j = false
              intro j hj
              by_cases e : j = k
              · rw [e]; exact hbx.out
              · exact Z.out j (by omega)
          · have hr : Hid (rends b false = false) := by
              show rends b false = false
              unfold rends
              have : ¬ num (bitAt b) 0 b.length = 0 := by
                intro h0
                have := (num_zero b.length).1 h0 k hkb
                rw [Nat.zero_add, hbx.out] at this
                cases this
              simp [this]
            go_wp2
            go_ret
            exact ⟨by rw [hr.out]; rfl, rfl⟩
        · obtain rfl : k = b.length := by omega
          have hr : Hid (rends b false = true) := by
            show rends b false = true
            unfold rends
            have : num (bitAt b) 0 b.length = 0 := (num_zero b.length).2 (fun j hj => by rw [Nat.zero_add]; exact Z.out j hj)
            simp [this, h7]
          go_wp2
          go_ret
          exact ⟨by rw [hr.out]; rfl, rfl⟩
    · have hr : Hid (rends b false = false) := by show rends b false = false; unfold rends; simp; intro h; omega
      go_enter Try.func38, Try.ntmps38
      go_wp2
      go_ret
      exact ⟨by rw [hr.out]; rfl, rfl⟩
  · have hr : Hid (rends b true = false) := by show rends b true = false; unfold rends; rfl
    go_enter Try.func38, Try.ntmps38
    go_wp2
    go_ret
    exact ⟨by rw [hr.out]; rfl, rfl⟩
end Go.Proofs.Ytngjfebndhmlmaa
