import Derived.WalkKit
import Derived.KernelRfl
import Derived.Deep.Draws
import Derived.Deep.LoopGhost
import Derived.Deep.QuietTactic
import Derived.BigQuiet
import Derived.WalkLawsBesides
import Derived.Lib.Hide
import Derived.Laws.OwnMore
import Derived.Laws.MakeOwn
import Derived.Deep.OwnRows
import Derived.Maps.AppendAt
import Derived.Laws.AppendOwnNone
import Derived.ChangeSlices
import Derived.OpenShut
import Derived.Outline
namespace Go.Proofs.Ytfnlimcgoeknjaa
open Go.RowKit

/-- All blocks that were there are as they were, but those of S. -/
structure Fr (S : Nat → Prop) (w w' : World) : Prop where
  os : w'.os = w.os
  tape : w'.tape = w.tape
  output : w'.output = w.output
  size : w.heap.size ≤ w'.heap.size
  block : ∀ k, k < w.heap.size → ¬ S k → w'.heap[k]? = w.heap[k]?

def No : Nat → Prop := fun _ => False

section
variable {S T : Nat → Prop} {w w1 w2 : World}
theorem Fr.refl (S : Nat → Prop) (w : World) : Fr S w w := ⟨rfl, rfl, rfl, Nat.le_refl _, fun _ _ _ => rfl⟩
theorem Fr.trans (h : Fr S w w1) (k : Fr T w1 w2) (hs : ∀ i, T i → S i ∨ w.heap.size ≤ i) : Fr S w w2 :=
  ⟨k.os.trans h.os, k.tape.trans h.tape, k.output.trans h.output, Nat.le_trans h.size k.size, fun i hi hn =>
    (k.block i (Nat.lt_of_lt_of_le hi h.size) (fun ht => (hs i ht).elim hn (fun h2 => by omega))).trans (h.block i hi hn)⟩
theorem Fr.mono (h : Fr S w w1) (hs : ∀ i, S i → T i) : Fr T w w1 := ⟨h.os, h.tape, h.output, h.size, fun i hi hn => h.block i hi (fun k => hn (hs i k))⟩
theorem Fr.no (h : Fr No w w1) : Fr S w w1 := h.mono fun _ k => k.elim
theorem Fr.below (h : Fr No w w1) : Below w.heap.size w w1 := ⟨h.os, h.tape, h.output, h.size, fun k hk => h.block k hk (fun f => f.elim)⟩
theorem Fr.of_below (h : Below w.heap.size w w1) : Fr S w w1 := ⟨h.os, h.tape, h.output, h.size, fun k hk _ => h.block k hk⟩
theorem Fr.of_grown {row : Option Nat} (h : w.grownBy w1 row) : Fr (fun k => row = some k) w w1 := ⟨h.os, h.tape, h.output, h.size, fun k hk hn => h.block k hk (fun e => hn e.symm)⟩
theorem Fr.alloc (h : Fr S w w1) (o : Obj) : Fr S w (w1.alloc o) :=
  h.trans (T := No) ⟨rfl, rfl, rfl, by simp, fun k hk _ => Below.heap_alloc _ _ _ hk⟩ (fun _ k => k.elim)
theorem Fr.drew (h : Fr S w w1) : Fr S w w1.drew := ⟨h.os, h.tape, h.output, h.size, h.block⟩
theorem Fr.drewN (h : Fr S w w1) (n : Nat) : Fr S w (w1.drewN n) := ⟨h.os, h.tape, h.output, h.size, h.block⟩
theorem Fr.setCell (h : Fr S w w1) {p : Addr} (hp : S p.block ∨ w.heap.size ≤ p.block) (u : Value) : Fr S w (w1.setCell p u) :=
  h.trans (T := fun k => k = p.block) ⟨rfl, rfl, rfl, by simp [World.setCell], fun k _ hk => Below.heap_setCell _ _ _ _ hk⟩ (fun i hi => by rw [hi]; exact hp)
theorem Fr.heap (h : Fr S w w1) {k : Nat} {o : Obj} (hb : w.heap[k]? = some o) (hk : ¬ S k) : w1.heap[k]? = some o :=
  (h.block k (Array.getElem?_eq_some_iff.1 hb).1 hk).trans hb
theorem Fr.cell (h : Fr S w w1) {a : Addr} {v : Value} (hc : w.cell? a = some v) (hk : ¬ S a.block) : w1.cell? a = some v :=
  (World.cell?_of_block (h.block a.block (World.block_lt_of_cell? w a hc) hk)).trans hc
theorem blk_lt {k : Nat} {o : Obj} (hb : w.heap[k]? = some o) : k < w.heap.size := (Array.getElem?_eq_some_iff.1 hb).1
end

/-! ### One block -/
theorem blk_cell {w : World} {g : Nat} {cs : Array Value} {t : TypeId} {fr : Nat × Nat} (h : w.heap[g]? = some (.cells cs t fr)) (j : Nat) : w.cell? ⟨g, j, none⟩ = cs[j]? := by
  simp [World.cell?, h]
theorem blk_free {w : World} {g : Nat} {cs : Array Value} {t : TypeId} (h : w.heap[g]? = some (.cells cs t (0, 0))) (j : Nat) : w.frozen? ⟨g, j, none⟩ = false := by
  simp [World.frozen?, h]
theorem blk_set {w : World} {g : Nat} {cs : Array Value} {t : TypeId} {fr : Nat × Nat} (h : w.heap[g]? = some (.cells cs t fr)) (j : Nat) (v : Value) :
    (w.setCell ⟨g, j, none⟩ v).heap[g]? = some (.cells (cs.setIfInBounds j v) t fr) := by
  simp only [World.setCell, Array.getElem?_modify, if_true, h]
  rfl
theorem blk_set_ne {w : World} {g : Nat} {o : Obj} (h : w.heap[g]? = some o) {a : Addr} (hne : g ≠ a.block) (v : Value) : (w.setCell a v).heap[g]? = some o :=
  (Below.heap_setCell w a v g hne).trans h
theorem blk_alloc {w : World} {g : Nat} {o : Obj} (h : w.heap[g]? = some o) (o' : Obj) : (w.alloc o').heap[g]? = some o :=
  (Below.heap_alloc w o' g (blk_lt h)).trans h
theorem blk_new (w : World) (o : Obj) : (w.alloc o).heap[w.heap.size]? = some o := by
  show (w.heap.push o)[w.heap.size]? = some o
  simp
theorem addr_add0 (g j : Nat) : (⟨g, 0, none⟩ : Addr).add j = ⟨g, j, none⟩ := by unfold Addr.add; split <;> simp_all

/-! ### A row of cells that is read: one cell an element -/
def Rd (w : World) (A : Option Addr) (xs : List Value) : Prop := xs.length ≤ 9223372036854775807 ∧ ∀ j, j < xs.length → ∃ ad, A = some ad ∧ w.cell? (ad.add j) = some (xs.getD j undef)
theorem Rd.nil (w : World) (A : Option Addr) : Rd w A [] := ⟨by simp, fun j h => by simp at h⟩
theorem Addr.add_block (a : Addr) (j : Nat) : (a.add j).block = a.block := by unfold Addr.add; split <;> rfl
theorem Rd.fr {S : Nat → Prop} {w w1 : World} {A : Option Addr} {xs : List Value} (h : Rd w A xs) (hf : Fr S w w1) (hs : ∀ ad, A = some ad → ¬ S ad.block) : Rd w1 A xs :=
  ⟨h.1, fun j hj => by
    obtain ⟨ad, e, hc⟩ := h.2 j hj
    exact ⟨ad, e, hf.cell hc (by rw [Addr.add_block]; exact hs ad e)⟩⟩
theorem Rd.no {w w1 : World} {A : Option Addr} {xs : List Value} (h : Rd w A xs) (hf : Fr No w w1) : Rd w1 A xs := h.fr hf (fun _ _ k => k.elim)
theorem Rd.lt {w : World} {ad : Addr} {xs : List Value} (h : Rd w (some ad) xs) (hn : 0 < xs.length) : ad.block < w.heap.size := by
  obtain ⟨a, e, hc⟩ := h.2 0 hn
  cases e
  have := World.block_lt_of_cell? w _ hc
  rwa [Addr.add_block] at this

/-! ### What a call owns: 'ownsRow' from block 0 on, one cell an element -/
def Own (w : World) (e : TypeId) (v : Value) (xs : List Value) : Prop := w.ownsRow 0 e 1 v xs.length xs
theorem Own.nil (w : World) (e : TypeId) : Own w e (.slice none 0 0) [] := World.ownsRow_nil _ _ _ _
theorem Own.fr {S : Nat → Prop} {w w1 : World} {e : TypeId} {v : Value} {xs : List Value} (h : Own w e v xs) (hf : Fr S w w1) (hs : ∀ k, v.ownBlock = some k → ¬ S k) : Own w1 e v xs := by
  obtain ⟨h1, h2⟩ := h
  refine ⟨h1, ?_⟩
  rcases h2 with h2 | ⟨g, cap, cur, rfl, hg, hb, hr⟩
  · exact .inl h2
  · exact .inr ⟨g, cap, cur, rfl, hg, hf.heap hb (hs g rfl), hr⟩
theorem Own.alloc {w : World} {e : TypeId} {v : Value} {xs : List Value} (h : Own w e v xs) (o : Obj) : Own (w.alloc o) e v xs := World.ownsRow.alloc h o
theorem Own.lt {w : World} {e : TypeId} {v : Value} {xs : List Value} (h : Own w e v xs) {k : Nat} (hk : v.ownBlock = some k) : k < w.heap.size := (World.ownsRow.lt h k hk).2
theorem Own.shape {w : World} {e : TypeId} {v : Value} {xs : List Value} (h : Own w e v xs) : ∃ A c, v = .slice A xs.length c ∧ xs.length ≤ c ∧ (∀ ad, A = some ad → v.ownBlock = some ad.block) ∧ Rd w A xs := by
  obtain ⟨h1, h2⟩ := h
  rcases h2 with ⟨rfl, h2⟩ | ⟨g, cap, cur, rfl, hg, hb, hc, hm, hs, ht⟩
  · obtain rfl : xs = [] := List.eq_nil_of_length_eq_zero h2
    exact ⟨none, 0, rfl, by simp, by simp, Rd.nil _ _⟩
  · refine ⟨_, cap, rfl, hc, fun ad e => ?_, ⟨by simp only [maxLen] at hm; omega, fun j hj => ⟨_, rfl, ?_⟩⟩⟩
    · cases e; rfl
    · rw [addr_add0, blk_cell hb]
      have h3 : cur.toList[j]? = xs[j]? := by
        have := congrArg (fun l => l[j]?) ht
        simp only [List.getElem?_take] at this
        rw [if_pos (by omega)] at this
        exact this
      rw [← Array.getElem?_toList, h3, List.getD_eq_getElem?_getD, List.getElem?_eq_getElem hj]
      rfl

/-- What is owned and not empty: where it lies. -/
theorem Own.form {w : World} {e : TypeId} {v : Value} {xs : List Value} (h : Own w e v xs) (hn : 0 < xs.length) :
    ∃ g c, v = .slice (some ⟨g, 0, none⟩) xs.length c ∧ xs.length ≤ c ∧ c ≤ maxLen ∧ v.ownBlock = some g ∧ g < w.heap.size ∧ (∀ j, w.frozen? ⟨g, j, none⟩ = false) ∧ (∀ j, j < xs.length → w.cell? ⟨g, j, none⟩ = some (xs.getD j undef)) ∧
      ∀ j u, j < xs.length → Own (w.setCell ⟨g, j, none⟩ u) e v (xs.set j u) := by
  obtain ⟨h1, h2⟩ := h
  rcases h2 with ⟨_, h2⟩ | ⟨g, cap, cur, rfl, hg, hb, hc, hm, hs, ht⟩
  · omega
  · refine ⟨g, cap, rfl, hc, hm, rfl, blk_lt hb, fun j => blk_free hb j, fun j hj => ?_, fun j u hj => ⟨by simp, .inr ⟨g, cap, cur.setIfInBounds j u, by simp, Nat.zero_le _, blk_set hb j u, by simpa using hc, hm, by simpa using hs, ?_⟩⟩⟩
    · rw [blk_cell hb]
      have h3 : cur.toList[j]? = xs[j]? := by
        have := congrArg (fun l => l[j]?) ht
        simp only [List.getElem?_take] at this
        rw [if_pos (by omega)] at this
        exact this
      rw [← Array.getElem?_toList, h3, List.getD_eq_getElem?_getD, List.getElem?_eq_getElem hj]
      rfl
    · rw [Array.toList_setIfInBounds, List.length_set, List.take_set, ht]

/-- Bytes, bools, numbers as cells. -/
def bys (l : List UInt8) : List Value := l.map fun b => .int .u8 (b.toNat : Int)
def bls (l : List Bool) : List Value := l.map .bool
def ints (k : IntKind) (l : List Int) : List Value := l.map (.int k)
theorem bys_length (l : List UInt8) : (bys l).length = l.length := by simp [bys]
theorem bls_length (l : List Bool) : (bls l).length = l.length := by simp [bls]
theorem ints_length (k : IntKind) (l : List Int) : (ints k l).length = l.length := by simp [ints]
theorem bys_getD (l : List UInt8) {j : Nat} (h : j < l.length) : (bys l).getD j undef = .int .u8 ((l.getD j 0).toNat : Int) := by
  simp [bys, List.getD_eq_getElem?_getD, List.getElem?_eq_getElem h]
theorem bls_getD (l : List Bool) {j : Nat} (h : j < l.length) : (bls l).getD j undef = .bool (l.getD j false) := by
  simp [bls, List.getD_eq_getElem?_getD, List.getElem?_eq_getElem h]
theorem ints_getD (k : IntKind) (l : List Int) {j : Nat} (h : j < l.length) : (ints k l).getD j undef = .int k (l.getD j 0) := by
  simp [ints, List.getD_eq_getElem?_getD, List.getElem?_eq_getElem h]
/-- Element j of bytes that are read. -/
theorem Rd.byte {w : World} {A : Option Addr} {l : List UInt8} (h : Rd w A (bys l)) {j : Nat} (hj : j < l.length) : ∃ ad, A = some ad ∧ w.cell? (ad.add j) = some (.int .u8 ((l.getD j 0).toNat : Int)) := by
  have := h.2 j (by rwa [bys_length])
  rwa [bys_getD l hj] at this
theorem Rd.bool {w : World} {A : Option Addr} {l : List Bool} (h : Rd w A (bls l)) {j : Nat} (hj : j < l.length) : ∃ ad, A = some ad ∧ w.cell? (ad.add j) = some (.bool (l.getD j false)) := by
  have := h.2 j (by rwa [bls_length])
  rwa [bls_getD l hj] at this
theorem Rd.int {w : World} {A : Option Addr} {k : IntKind} {l : List Int} (h : Rd w A (ints k l)) {j : Nat} (hj : j < l.length) : ∃ ad, A = some ad ∧ w.cell? (ad.add j) = some (.int k (l.getD j 0)) := by
  have := h.2 j (by rwa [ints_length])
  rwa [ints_getD k l hj] at this

/-- Element j of bytes that are read, by a name of its own. -/
theorem Rd.byte' {w : World} {A : Option Addr} {l : List UInt8} (h : Rd w A (bys l)) {j : Nat} (hj : j < l.length) : ∃ ad b, A = some ad ∧ w.cell? (ad.add j) = some (.int .u8 (b.toNat : Int)) ∧ Hid (l.getD j 0 = b) := by
  obtain ⟨ad, h1, h2⟩ := h.byte hj
  exact ⟨ad, _, h1, h2, rfl⟩
theorem u8_zero {b : UInt8} : ((b.toNat : Int) == 0) = decide (b = 0) := by
  rw [Bool.eq_iff_iff, beq_iff_eq, decide_eq_true_eq]
  constructor
  · intro h; exact UInt8.toNat.inj (by simpa using h)
  · rintro rfl; rfl

/-- 'append(v, y)' onto what the call owns (behind 'at_builtin'): y lies in a new block of its own. -/
theorem own_append {P : Program} {ops : Array Oper} {rest : List Oper} {o : Oper} {a : Act} {Q : Exit → Act → World → Prop} {W : World} (hgd : o.guard = none) (s x : Operand) (t e : TypeId) (z : Value) (bytes : Nat)
    (ho : o.op = .call { callee := .builtin .append, args := #[s, x], argTypes := #[t, t] })
    (ht : P.underlying t = some (.slice e)) (hinfo : (P.info? e).map (fun i => (i.zero, i.size, i.bytes)) = some (some z, 1, bytes)) (hz : z.cells.size = 1) (hb0 : 0 < bytes)
    (v : Value) (xs : List Value) (y : Value) (b : Nat) (hs : a.eval s = v) (hx : a.eval x = .slice (some ⟨b, 0, none⟩) 1 1) (hb : b = W.heap.size) (h1 : y.oneCell' = true)
    (HO : Own W e v xs) (hl : (xs.length + 1) * bytes ≤ 140737488355328)
    (h : ∀ v1 w1, Own w1 e v1 (xs ++ [y]) → Fr (fun k => v.ownBlock = some k) W w1 → (v1.ownBlock = v.ownBlock ∨ ∃ b, v1.ownBlock = some b ∧ W.heap.size ≤ b) → wpList P ops Q rest (a.put o.dst v1) w1) :
    wpList P ops Q (o :: rest) a (W.alloc (.cells #[y] e)) := by
  subst hb
  obtain ⟨i0, hi, hzz⟩ := Option.map_eq_some_iff.1 hinfo
  simp only [Prod.mk.injEq] at hzz
  obtain ⟨hz0, hz1, hz2⟩ := hzz
  have hlen : xs.length + 1 ≤ 140737488355328 := Nat.le_trans (Nat.le_mul_of_pos_right _ hb0) hl
  refine wpList_append_own_at (W.alloc (.cells #[y] e)) hgd s x t ho 0 e i0 z 1 bytes ht hi hz0 hz1 hz2 hz (by omega) v xs.length xs hs (World.ownsRow.alloc HO _) ⟨W.heap.size, 0, none⟩ 1 1 [y] hx rfl
    (fun j u hj => ?_) (by simpa using h1) (by simp only [maxLen]; omega) hl (by omega) ?_
  · match j, hj with
    | 0, hj =>
      simp at hj
      subst hj
      rw [addr_add0, blk_cell (blk_new W _)]
      rfl
  · intro v1 w1 hown hg _ hat
    refine h v1 w1 (by unfold Own; simpa using hown) ?_ ?_
    · exact ((Fr.refl No W).alloc _).no.trans (Fr.of_grown hg) (fun i hi => .inl hi)
    · rcases hat with hat | hat
      · exact .inl hat
      · exact .inr ⟨_, hat, by simp⟩

/-- 'append(v, ys...)' onto what the call owns (behind 'at_builtin'), ys being read from wherever they lie, nil too. -/
theorem own_extend {P : Program} {ops : Array Oper} {rest : List Oper} {o : Oper} {a : Act} {Q : Exit → Act → World → Prop} {W : World} (hgd : o.guard = none) (s x : Operand) (t e : TypeId) (z : Value) (bytes : Nat)
    (ho : o.op = .call { callee := .builtin .append, args := #[s, x], argTypes := #[t, t] })
    (ht : P.underlying t = some (.slice e)) (hinfo : (P.info? e).map (fun i => (i.zero, i.size, i.bytes)) = some (some z, 1, bytes)) (hz : z.cells.size = 1) (hb0 : 0 < bytes)
    (v : Value) (xs ys : List Value) (A : Option Addr) (n c : Nat) (hs : a.eval s = v) (hx : a.eval x = .slice A n c) (hn : n = ys.length) (hA : A = none → c = 0) (hR : Rd W A ys) (h1 : ∀ u ∈ ys, u.oneCell' = true)
    (HO : Own W e v xs) (hl : (xs.length + ys.length) * bytes ≤ 140737488355328)
    (h : ∀ v1 w1, Own w1 e v1 (xs ++ ys) → Fr (fun k => v.ownBlock = some k) W w1 → (v1.ownBlock = v.ownBlock ∨ ∃ b, v1.ownBlock = some b ∧ W.heap.size ≤ b) → wpList P ops Q rest (a.put o.dst v1) w1) :
    wpList P ops Q (o :: rest) a W := by
  subst hn
  obtain ⟨i0, hi, hzz⟩ := Option.map_eq_some_iff.1 hinfo
  simp only [Prod.mk.injEq] at hzz
  obtain ⟨hz0, hz1, hz2⟩ := hzz
  have hlen : xs.length + ys.length ≤ 140737488355328 := Nat.le_trans (Nat.le_mul_of_pos_right _ hb0) hl
  cases A with
  | none =>
    have hy : ys = [] := by
      cases ys with
      | nil => rfl
      | cons y r => obtain ⟨ad, e, _⟩ := hR.2 0 (by simp); cases e
    subst hy
    obtain rfl := hA rfl
    refine wpList_append_own_none hgd s x t ho 0 e i0 1 ht hi v xs.length xs hs HO hx ?_
    exact h v W (by simpa using HO) (Fr.refl _ _) (.inl rfl)
  | some ad =>
    refine wpList_append_own_at W hgd s x t ho 0 e i0 z 1 bytes ht hi hz0 hz1 hz2 hz (by omega) v xs.length xs hs HO ad ys.length c ys hx (by simp)
      (fun j u hj => ?_) h1 (by simp only [maxLen]; omega) hl (by omega) ?_
    · have hjl : j < ys.length := (List.getElem?_eq_some_iff.1 hj).1
      obtain ⟨ad', e, hc⟩ := hR.2 j hjl
      cases e
      rw [hc, List.getD_eq_getElem?_getD, hj]; rfl
    · intro v1 w1 hown hg _ hat
      refine h v1 w1 (by unfold Own; simpa using hown) (Fr.of_grown hg) ?_
      rcases hat with hat | hat
      · exact .inl hat
      · exact .inr ⟨_, hat, Nat.le_refl _⟩

theorem bys_one' (l : List UInt8) : ∀ u ∈ bys l, u.oneCell' = true := by
  intro u hu
  obtain ⟨b, _, rfl⟩ := List.mem_map.1 hu
  rfl
theorem bls_one' (l : List Bool) : ∀ u ∈ bls l, u.oneCell' = true := by
  intro u hu
  obtain ⟨b, _, rfl⟩ := List.mem_map.1 hu
  rfl
theorem bys_set (l : List UInt8) (j : Nat) (b : UInt8) : (bys l).set j (.int .u8 (b.toNat : Int)) = bys (l.set j b) := by simp [bys, List.map_set]
theorem bys_append (l m : List UInt8) : bys (l ++ m) = bys l ++ bys m := by simp [bys]
theorem bls_append (l m : List Bool) : bls (l ++ m) = bls l ++ bls m := by simp [bls]

theorem max2_int (k k' : IntKind) (x y : Int) : Builtin.max2 (.int k x) (.int k' y) = pure (.int k (max x y)) := by
  simp only [Builtin.max2, gt_iff_lt]; rw [show (if x < y then y else x) = max x y by omega]
theorem min2_int (k k' : IntKind) (x y : Int) : Builtin.min2 (.int k x) (.int k' y) = pure (.int k (min x y)) := by
  simp only [Builtin.min2]; rw [show (if y < x then y else x) = min x y by omega]
theorem max_two (ats : Array TypeId) (ty : TypeId) (a b : Value) : Builtin.max_ ats ty #[a, b] = (Builtin.max2 a b >>= fun s => pure s) := by simp only [Builtin.max_, List.foldlM_cons, List.foldlM_nil]
theorem min_two (ats : Array TypeId) (ty : TypeId) (a b : Value) : Builtin.min_ ats ty #[a, b] = (Builtin.min2 a b >>= fun s => pure s) := by simp only [Builtin.min_, List.foldlM_cons, List.foldlM_nil]

end Go.Proofs.Ytfnlimcgoeknjaa
