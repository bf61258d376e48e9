import Derived.Test.YtfnlimcgoeknjaaMem
import Derived.Laws.Tables
import Derived.Laws.Rows
import Derived.StillTailTactics
namespace Go.Proofs.Ytfnlimcgoeknjaa
open Go.RowKit Go

theorem four {w : World} {g : Nat} {t : TypeId} {c0 c1 c2 c3 : Value} (h : w.heap[g]? = some (.cells #[c0, c1, c2, c3] t (0, 0))) :
    w.cell? ⟨g, 0, none⟩ = some c0 ∧ w.cell? ⟨g, 1, none⟩ = some c1 ∧ w.cell? ⟨g, 2, none⟩ = some c2 ∧ w.cell? ⟨g, 3, none⟩ = some c3 ∧
    w.frozen? ⟨g, 0, none⟩ = false ∧ w.frozen? ⟨g, 1, none⟩ = false ∧ w.frozen? ⟨g, 2, none⟩ = false ∧ w.frozen? ⟨g, 3, none⟩ = false := by
  refine ⟨?_, ?_, ?_, ?_, blk_free h 0, blk_free h 1, blk_free h 2, blk_free h 3⟩ <;> (rw [blk_cell h]; rfl)
theorem results_cell1 {fn : Func} {t : Tmp} {ty : TypeId} (h : fn.results = #[.cell t ty]) (tmps : Array Value) (P : Program) (w : World) (g : Nat) (cs : Array Value)
    (ht : tmps.getD t undef = .pointer (some ⟨g, 0, none⟩)) (hl : (loadVar ty ⟨g, 0, none⟩).run P w = .ok (.agg cs) w) :
    (results fn tmps).run P w = .ok (.agg cs) w := by
  have ht' : tmps[t]?.getD undef = .pointer (some ⟨g, 0, none⟩) := by simpa using ht
  simp only [results, h]
  simp [ht', asAddr, hl]
theorem Fr.row {S : Nat → Prop} {w w1 : World} {g : Nat} {cs : Array Value} (h : Fr S w w1) (hg : S g ∨ w.heap.size ≤ g) : Fr S w (w1.setRow g cs) :=
  h.trans (T := fun k => k = g) ⟨rfl, rfl, rfl, by simp [World.setRow], fun k _ hk => by simp only [World.setRow, Array.getElem?_modify]; rw [if_neg (fun e => hk e.symm)]⟩ (fun i hi => by rw [hi]; exact hg)
theorem Rd.row {w : World} {A : Option Addr} {xs : List Value} {g : Nat} (h : Rd w A xs) (hA : ∀ ad, A = some ad → ad.block ≠ g) (cs : Array Value) : Rd (w.setRow g cs) A xs :=
  h.fr (S := fun k => k = g) ((Fr.refl _ w).row (.inl rfl)) (fun ad e => hA ad e)
end Go.Proofs.Ytfnlimcgoeknjaa
