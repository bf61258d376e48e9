import Derived.Test.YtfnlimcgoeknjaaMem
import Derived.Laws.Tables
import Derived.Laws.Rows
import Derived.StillTailTactics
namespace Go.Proofs.Ytfnlimcgoeknjaa
open Go.RowKit Go

theorem four {w : World} {g : Nat} {t : TypeId} {c0 c1 c2 c3 : Value} (h : w.heap[g]? = some (.cells #[c0, c1, c2, c3] t (0, 0))) :
    w.cell? ⟨g, 0, none⟩ = some c0 ∧ w.cell? ⟨g, 1, none⟩ = some c1 ∧ w.cell? ⟨g, 2, none⟩ = some c2 ∧ w.cell? ⟨g, 3, none⟩ = some c3 ∧
    w.frozen? ⟨g, 0, none⟩ = false ∧ w.frozen? ⟨g, 1, none⟩ = false ∧ w.frozen? ⟨g, 2, none⟩ = false ∧ w.frozen? ⟨g, 3, none⟩ = false := by
  refine ⟨?_, ?_, ?_, ?_, blk_free h 0, blk_free h 1, blk_free h 2, blk_free h 3⟩ <;> (rw [blk_cell h]; rfl)
theorem results_cell1 {fn : Func} {t : Tmp} {ty : TypeId} (h : fn.results = #[.cell t ty]) (tmps : Array Value) (P : Program) (w : World) (g : Nat) (cs : Array Value)
    (ht : tmps.getD t undef = .pointer (some ⟨g, 0, none⟩)) (hl : (loadVar ty ⟨g, 0, none⟩).run P w = .ok (.agg cs) w) :
    (results fn tmps).run P w = .ok (.agg cs) w := by
  have ht' : tmps[t]?.getD undef = .pointer (some ⟨g, 0, none⟩) := by simpa using ht
  simp only [results, h]
  simp [ht', asAddr, hl]
theorem Fr.row {S : Nat → Prop} {w w1 : World} {g : Nat} {cs : Array Value} (h : Fr S w w1) (hg : S g ∨ w.heap.size ≤ g) : Fr S w (w1.setRow g cs) :=
  h.trans (T := fun k => k = g) ⟨rfl, rfl, rfl, by simp [World.setRow], fun k _ hk => by simp only [World.setRow, Array.getElem?_modify]; rw [if_neg (fun e => hk e.symm)]⟩ (fun i hi => by rw [hi]; exact hg)
theorem Rd.row {w : World} {A : Option Addr} {xs : List Value} {g : Nat} (h : Rd w A xs) (hA : ∀ ad, A = some ad → ad.block ≠ g) (cs : Array Value) : Rd (w.setRow g cs) A xs :=
  h.fr (S := fun k => k = g) ((Fr.refl _ w).row (.inl rfl)) (fun ad e => hA ad e)
end Go.Proofs.Ytfnlimcgoeknjaa

namespace Go.Proofs.Ytfnlimcgoeknjaa
open Go.RowKit Go

/-! ### Rows of elements of k cells -/
def OwnK (w : World) (e : TypeId) (k : Nat) (v : Value) (n : Nat) (xs : List Value) : Prop := w.ownsRow 0 e k v n xs
theorem OwnK.nil (w : World) (e : TypeId) (k : Nat) : OwnK w e k (.slice none 0 0) 0 [] := World.ownsRow_nil _ _ _ _
theorem OwnK.fr {S : Nat → Prop} {w w1 : World} {e : TypeId} {k n : Nat} {v : Value} {xs : List Value} (h : OwnK w e k v n xs) (hf : Fr S w w1) (hs : ∀ b, v.ownBlock = some b → ¬ S b) : OwnK w1 e k v n xs := by
  obtain ⟨h1, h2⟩ := h
  refine ⟨h1, ?_⟩
  rcases h2 with h2 | ⟨g, cap, cur, rfl, hg, hb, hr⟩
  · exact .inl h2
  · exact .inr ⟨g, cap, cur, rfl, hg, hf.heap hb (hs g rfl), hr⟩
theorem OwnK.no {w w1 : World} {e : TypeId} {k n : Nat} {v : Value} {xs : List Value} (h : OwnK w e k v n xs) (hf : Fr No w w1) : OwnK w1 e k v n xs := h.fr hf (fun _ _ k => k)
theorem OwnK.alloc {w : World} {e : TypeId} {k n : Nat} {v : Value} {xs : List Value} (h : OwnK w e k v n xs) (o : Obj) : OwnK (w.alloc o) e k v n xs := World.ownsRow.alloc h o
theorem OwnK.lt {w : World} {e : TypeId} {k n : Nat} {v : Value} {xs : List Value} (h : OwnK w e k v n xs) {b : Nat} (hk : v.ownBlock = some b) : b < w.heap.size := (World.ownsRow.lt h b hk).2
theorem OwnK.len {w : World} {e : TypeId} {k n : Nat} {v : Value} {xs : List Value} (h : OwnK w e k v n xs) : xs.length = n * k := h.1

/-- A row that is read: k cells an element, n elements. -/
def RdK (w : World) (A : Option Addr) (k n : Nat) (xs : List Value) : Prop := xs.length = n * k ∧ n ≤ 9223372036854775807 ∧ ∀ j, j < n * k → ∃ ad, A = some ad ∧ w.cell? (ad.add j) = some (xs.getD j undef)
theorem RdK.nil (w : World) (A : Option Addr) (k : Nat) : RdK w A k 0 [] := ⟨by simp, by simp, fun j h => by simp at h⟩
theorem RdK.fr {S : Nat → Prop} {w w1 : World} {A : Option Addr} {k n : Nat} {xs : List Value} (h : RdK w A k n xs) (hf : Fr S w w1) (hs : ∀ ad, A = some ad → ¬ S ad.block) : RdK w1 A k n xs :=
  ⟨h.1, h.2.1, fun j hj => by
    obtain ⟨ad, e, hc⟩ := h.2.2 j hj
    exact ⟨ad, e, hf.cell hc (by rw [Addr.add_block]; exact hs ad e)⟩⟩
theorem RdK.no {w w1 : World} {A : Option Addr} {k n : Nat} {xs : List Value} (h : RdK w A k n xs) (hf : Fr No w w1) : RdK w1 A k n xs := h.fr hf (fun _ _ k => k)
theorem OwnK.shape {w : World} {e : TypeId} {k n : Nat} {v : Value} {xs : List Value} (h : OwnK w e k v n xs) :
    ∃ A c, v = .slice A n c ∧ n ≤ c ∧ (A = none → c = 0) ∧ (∀ ad, A = some ad → v.ownBlock = some ad.block) ∧ RdK w A k n xs := by
  obtain ⟨h1, h2⟩ := h
  rcases h2 with ⟨rfl, h2⟩ | ⟨g, cap, cur, rfl, hg, hb, hc, hm, hs, ht⟩
  · subst h2
    obtain rfl : xs = [] := List.eq_nil_of_length_eq_zero (by simpa using h1)
    exact ⟨none, 0, rfl, Nat.le_refl _, fun _ => rfl, by simp, RdK.nil _ _ _⟩
  · refine ⟨_, cap, rfl, hc, (fun h => by cases h), fun ad e => ?_, h1, by simp only [maxLen] at hm; omega, fun j hj => ⟨_, rfl, ?_⟩⟩
    · cases e; rfl
    · rw [addr_add0, blk_cell hb]
      have h3 : cur.toList[j]? = xs[j]? := by
        have := congrArg (fun l => l[j]?) ht
        simp only [List.getElem?_take] at this
        rw [if_pos hj] at this
        exact this
      rw [← Array.getElem?_toList, h3, List.getD_eq_getElem?_getD, List.getElem?_eq_getElem (by omega)]
      rfl
/-- Cell r of element i of rows made by f. -/
theorem flat_getD {α : Type} (f : α → List Value) (k : Nat) (hf : ∀ x, (f x).length = k) : ∀ (l : List α) (i r : Nat) (hi : i < l.length), r < k → (l.flatMap f).getD (i * k + r) undef = (f l[i]).getD r undef
  | [], i, r, hi, _ => by simp at hi
  | x :: l, 0, r, _, hr => by
    simp only [List.flatMap_cons, Nat.zero_mul, Nat.zero_add, List.getElem_cons_zero]
    rw [List.getD_eq_getElem?_getD, List.getD_eq_getElem?_getD, List.getElem?_append_left (by rw [hf]; exact hr)]
  | x :: l, i + 1, r, hi, hr => by
    have h := flat_getD f k hf l i r (by simpa using hi) hr
    simp only [List.flatMap_cons, List.getElem_cons_succ]
    rw [← h, List.getD_eq_getElem?_getD, List.getD_eq_getElem?_getD, List.getElem?_append_right (by rw [hf, Nat.succ_mul]; omega), hf]
    congr 2
    rw [Nat.succ_mul]; omega
theorem flat_length {α : Type} (f : α → List Value) (k : Nat) (hf : ∀ x, (f x).length = k) (l : List α) : (l.flatMap f).length = l.length * k := by
  induction l with
  | nil => simp
  | cons x l ih => simp only [List.flatMap_cons, List.length_append, hf, ih, List.length_cons, Nat.succ_mul]; omega

/-- 'append(v, E{..})' onto what the call owns (behind 'at_builtin'): the element lies in a new block of its own. -/
theorem own_append_k {P : Program} {ops : Array Oper} {rest : List Oper} {o : Oper} {a : Act} {Q : Exit → Act → World → Prop} {W : World} (hgd : o.guard = none) (s x : Operand) (t e : TypeId) (z : Value) (k bytes : Nat)
    (ho : o.op = .call { callee := .builtin .append, args := #[s, x], argTypes := #[t, t] })
    (ht : P.underlying t = some (.slice e)) (hinfo : (P.info? e).map (fun i => (i.zero, i.size, i.bytes)) = some (some z, k, bytes)) (hz : z.cells.size = k) (hk0 : 0 < k) (hb0 : 0 < bytes)
    (v : Value) (n : Nat) (xs : List Value) (ys : Array Value) (b : Nat) (hs : a.eval s = v) (hx : a.eval x = .slice (some ⟨b, 0, none⟩) 1 1) (hb : b = W.heap.size) (hy : ys.size = k) (h1 : ∀ u ∈ ys.toList, u.oneCell' = true)
    (HO : OwnK W e k v n xs) (hl : (n + 1) * bytes ≤ 140737488355328)
    (h : ∀ v1 w1, OwnK w1 e k v1 (n + 1) (xs ++ ys.toList) → Fr (fun k => v.ownBlock = some k) W w1 → (v1.ownBlock = v.ownBlock ∨ ∃ b, v1.ownBlock = some b ∧ W.heap.size ≤ b) → wpList P ops Q rest (a.put o.dst v1) w1) :
    wpList P ops Q (o :: rest) a (W.alloc (.cells ys e)) := by
  subst hb
  obtain ⟨i0, hi, hzz⟩ := Option.map_eq_some_iff.1 hinfo
  simp only [Prod.mk.injEq] at hzz
  obtain ⟨hz0, hz1, hz2⟩ := hzz
  have hlen : n + 1 ≤ 140737488355328 := Nat.le_trans (Nat.le_mul_of_pos_right _ hb0) hl
  refine wpList_append_own_at (W.alloc (.cells ys e)) hgd s x t ho 0 e i0 z k bytes ht hi hz0 hz1 hz2 hz hk0 v n xs hs (World.ownsRow.alloc HO _) ⟨W.heap.size, 0, none⟩ 1 1 ys.toList hx (by simpa using hy)
    (fun j u hj => ?_) h1 (by simp only [maxLen]; omega) hl (by omega) ?_
  · rw [addr_add0, blk_cell (blk_new W _)]
    simpa using hj
  · intro v1 w1 hown hg _ hat
    refine h v1 w1 hown ?_ ?_
    · exact ((Fr.refl No W).alloc _).no.trans (Fr.of_grown hg) (fun i hi => .inl hi)
    · rcases hat with hat | hat
      · exact .inl hat
      · exact .inr ⟨_, hat, by simp⟩
end Go.Proofs.Ytfnlimcgoeknjaa
