import Derived.Test.YtfnlimcgoeknjaaMem
import Derived.Laws.Tables
import Derived.Laws.Rows
import Derived.RegionTactic
namespace Go.Proofs.Ytfnlimcgoeknjaa
open Go.RowKit Go

/-! ### A region that draws: what holds at each stage, whatever the order -/
section
variable {P : Program} {ops : Array Oper} {Q : Exit → Act → World → Prop} {md : Region.Mode}
theorem wpAny_inv (J : Nat → Array Bool → Act → World → Prop)
    (step : ∀ n L a w, J (n + 1) L a w → ∀ i ∈ Region.ready md ops L, ∃ o, ops[i]? = some o ∧ o.guard = none ∧ Oper.wp P o a w (J n (L.setIfInBounds i true)) Q)
    (fin : ∀ n L a w, J n L a w → Region.ready md ops L = [] → Q .normal a w)
    (zero : ∀ L a w, J 0 L a w → Region.ready md ops L = []) : ∀ n L a w, J n L a w → wpAny P md ops Q n L a w
  | 0, L, a, w, h => ⟨zero L a w h, fin 0 L a w h (zero L a w h)⟩
  | n + 1, L, a, w, h => ⟨fun hr => fin (n + 1) L a w h hr, fun i hi => by
      obtain ⟨o, ho, hg, hs⟩ := step n L a w h i hi
      refine wpOp_step ho fun K' hK => ?_
      rw [if_pos (by simp [Region.wanted, hg])]
      exact Oper.wp_mono (fun a w h => hK a w (wpAny_inv J step fin zero n _ a w h)) hs⟩

/-- Which operations of 'x, y := f(a), f(b)' may come up. -/
def twoReady (L : Array Bool) (i : Nat) : Bool :=
  let b (j : Nat) : Bool := L.getD j false
  match i with
  | 0 => !b 0
  | 1 => b 0 && !b 1
  | 2 => !b 2
  | 3 => b 1 && b 2 && !b 3
  | 4 => !b 4
  | 5 => !b 5
  | 6 => b 1 && b 3 && b 4 && b 5 && !b 6
  | 7 => b 6 && !b 7
  | _ => false
def twoAll (md : Region.Mode) (ops : Array Oper) : Bool :=
  [false, true].all fun l0 => [false, true].all fun c0 => [false, true].all fun l1 => [false, true].all fun c1 => [false, true].all fun x => [false, true].all fun y => [false, true].all fun p => [false, true].all fun q =>
    (Region.ready md ops #[l0, c0, l1, c1, x, y, p, q]).all (twoReady #[l0, c0, l1, c1, x, y, p, q]) && (!(Region.ready md ops #[l0, c0, l1, c1, x, y, p, q]).isEmpty || (l0 && c0 && l1 && c1 && x && y && p && q))
theorem mem_bools (b : Bool) : b ∈ [false, true] := by cases b <;> simp
theorem twoAll_at (h : twoAll md ops = true) (l0 c0 l1 c1 x y p q : Bool) : (∀ i ∈ Region.ready md ops #[l0, c0, l1, c1, x, y, p, q], twoReady #[l0, c0, l1, c1, x, y, p, q] i = true) ∧ (Region.ready md ops #[l0, c0, l1, c1, x, y, p, q] = [] → (l0 = true ∧ c0 = true ∧ l1 = true ∧ c1 = true) ∧ x = true ∧ y = true ∧ p = true ∧ q = true) := by
  have h1 := List.all_eq_true.1 h l0 (mem_bools _)
  have h2 := List.all_eq_true.1 h1 c0 (mem_bools _)
  have h3 := List.all_eq_true.1 h2 l1 (mem_bools _)
  have h4 := List.all_eq_true.1 h3 c1 (mem_bools _)
  have h5 := List.all_eq_true.1 h4 x (mem_bools _)
  have h6 := List.all_eq_true.1 h5 y (mem_bools _)
  have h7 := List.all_eq_true.1 h6 p (mem_bools _)
  have h8 := List.all_eq_true.1 h7 q (mem_bools _)
  rw [Bool.and_eq_true] at h8
  refine ⟨fun i hi => List.all_eq_true.1 h8.1 i hi, fun he => ?_⟩
  have h9 := h8.2
  rw [he] at h9
  simpa [and_assoc] using h9
end

/-- 'x, y := f(a), f(b)', in whatever order: each result's cells (C), which blocks they lead to (blk), what holds of them (GA, GB). -/
structure TwoWays (P : Program) (ops : Array Oper) (Q : Exit → Act → World → Prop) (w0 : World) (F : Value → Value → Value → Value → Value → Value → Act) (va vb : Value) (Z : Array Value) (t : TypeId) (GA GB : Array Value → World → Prop) (blk : Array Value → Nat → Prop) : Prop where
  all : twoAll .any ops = true
  size : ops.size = 8
  o0 : ∃ o, ops[0]? = some o ∧ o.guard = none ∧ ∀ s0 s1 s2 s3 s4 s5 w K, Fr No w0 w → K (F va s1 s2 s3 s4 s5) w → Oper.wp P o (F s0 s1 s2 s3 s4 s5) w K Q
  o1 : ∃ o, ops[1]? = some o ∧ o.guard = none ∧ ∀ s1 s2 s3 s4 s5 w K, Fr No w0 w → (∀ C w', GA C w' → (∀ k, blk C k → w.heap.size ≤ k ∧ k < w'.heap.size) → Fr No w w' → K (F va (.agg C) s2 s3 s4 s5) w') → Oper.wp P o (F va s1 s2 s3 s4 s5) w K Q
  o2 : ∃ o, ops[2]? = some o ∧ o.guard = none ∧ ∀ s0 s1 s2 s3 s4 s5 w K, Fr No w0 w → K (F s0 s1 vb s3 s4 s5) w → Oper.wp P o (F s0 s1 s2 s3 s4 s5) w K Q
  o3 : ∃ o, ops[3]? = some o ∧ o.guard = none ∧ ∀ s0 s1 s3 s4 s5 w K, Fr No w0 w → (∀ C w', GB C w' → (∀ k, blk C k → w.heap.size ≤ k ∧ k < w'.heap.size) → Fr No w w' → K (F s0 s1 vb (.agg C) s4 s5) w') → Oper.wp P o (F s0 s1 vb s3 s4 s5) w K Q
  o4 : ∃ o, ops[4]? = some o ∧ o.guard = none ∧ ∀ s0 s1 s2 s3 s4 s5 w K, K (F s0 s1 s2 s3 (.pointer (some ⟨w.heap.size, 0, none⟩)) s5) (w.alloc (.cells Z t)) → Oper.wp P o (F s0 s1 s2 s3 s4 s5) w K Q
  o5 : ∃ o, ops[5]? = some o ∧ o.guard = none ∧ ∀ s0 s1 s2 s3 s4 s5 w K, K (F s0 s1 s2 s3 s4 (.pointer (some ⟨w.heap.size, 0, none⟩))) (w.alloc (.cells Z t)) → Oper.wp P o (F s0 s1 s2 s3 s4 s5) w K Q
  o6 : ∃ o, ops[6]? = some o ∧ o.guard = none ∧ ∀ s0 C s2 s3 h s5 w K, GA C w → w.heap[h]? = some (.cells Z t (0, 0)) → K (F s0 (.agg C) s2 s3 (.pointer (some ⟨h, 0, none⟩)) s5) (w.setRow h C) → Oper.wp P o (F s0 (.agg C) s2 s3 (.pointer (some ⟨h, 0, none⟩)) s5) w K Q
  o7 : ∃ o, ops[7]? = some o ∧ o.guard = none ∧ ∀ s0 s1 s2 C s4 h w K, GB C w → w.heap[h]? = some (.cells Z t (0, 0)) → K (F s0 s1 s2 (.agg C) s4 (.pointer (some ⟨h, 0, none⟩))) (w.setRow h C) → Oper.wp P o (F s0 s1 s2 (.agg C) s4 (.pointer (some ⟨h, 0, none⟩))) w K Q
  ga : ∀ C w w' S, GA C w → Fr S w w' → (∀ k, blk C k → ¬ S k) → GA C w'
  gb : ∀ C w w' S, GB C w → Fr S w w' → (∀ k, blk C k → ¬ S k) → GB C w'

section
variable {P : Program} {ops : Array Oper} {Q : Exit → Act → World → Prop} {w0 : World} {F : Value → Value → Value → Value → Value → Value → Act} {va vb : Value} {Z : Array Value} {t : TypeId} {GA GB : Array Value → World → Prop} {blk : Array Value → Nat → Prop}

/-- What stands in a call's slot: nothing yet, or its result, which leads to none of the two new blocks. -/
def Got (G : Array Value → World → Prop) (blk : Array Value → Nat → Prop) (c : Bool) (s : Value) (C : Array Value) (w : World) : Prop := c = true → s = .agg C ∧ G C w ∧ ∀ k, blk C k → k < w.heap.size
def New1 (w0 : World) (x p : Bool) (s : Value) (h : Nat) (Z C : Array Value) (t : TypeId) (w : World) : Prop := x = true → s = .pointer (some ⟨h, 0, none⟩) ∧ w0.heap.size ≤ h ∧ w.heap[h]? = some (.cells (if p = true then C else Z) t (0, 0))
def Off (blk : Array Value → Nat → Prop) (c x : Bool) (C : Array Value) (h : Nat) : Prop := c = true → x = true → ∀ k, blk C k → k ≠ h
theorem Got.fr {G : Array Value → World → Prop} (hG : ∀ C w w' S, G C w → Fr S w w' → (∀ k, blk C k → ¬ S k) → G C w') {c : Bool} {s : Value} {C : Array Value} {w w' : World} {S : Nat → Prop} (h : Got G blk c s C w) (f : Fr S w w') (hS : c = true → ∀ k, blk C k → ¬ S k) : Got G blk c s C w' := fun hc =>
  ⟨(h hc).1, hG _ _ _ S (h hc).2.1 f (hS hc), fun k hk => Nat.lt_of_lt_of_le ((h hc).2.2 k hk) f.size⟩
theorem New1.fr {x p : Bool} {s : Value} {h : Nat} {C : Array Value} {w w' : World} {S : Nat → Prop} (n : New1 w0 x p s h Z C t w) (f : Fr S w w') (hS : ¬ S h) : New1 w0 x p s h Z C t w' := fun hx =>
  ⟨(n hx).1, (n hx).2.1, f.heap (n hx).2.2 hS⟩
theorem New1.lt {x p : Bool} {s : Value} {h : Nat} {C : Array Value} {w : World} (n : New1 w0 x p s h Z C t w) (hx : x = true) : h < w.heap.size := blk_lt (n hx).2.2

/-- The state at a stage. -/
def TwoAt (w0 : World) (F : Value → Value → Value → Value → Value → Value → Act) (va vb : Value) (Z : Array Value) (t : TypeId) (GA GB : Array Value → World → Prop) (blk : Array Value → Nat → Prop) (l0 c0 l1 c1 x y p q : Bool) (a : Act) (w : World) : Prop :=
  ∃ s0 s1 s2 s3 s4 s5 C D h1 h2, a = F s0 s1 s2 s3 s4 s5 ∧ (l0 = true → s0 = va) ∧ (l1 = true → s2 = vb) ∧ Got GA blk c0 s1 C w ∧ Got GB blk c1 s3 D w ∧ New1 w0 x p s4 h1 Z C t w ∧ New1 w0 y q s5 h2 Z D t w ∧
    (Off blk c0 x C h1 ∧ Off blk c0 y C h2 ∧ Off blk c1 x D h1 ∧ Off blk c1 y D h2) ∧ (x = true → y = true → h1 ≠ h2) ∧ Fr No w0 w

theorem two_row {S : Nat → Prop} {w w1 : World} {g : Nat} {cs : Array Value} (h : Fr S w w1) (hg : S g ∨ w.heap.size ≤ g) : Fr S w (w1.setRow g cs) :=
  h.trans (T := fun k => k = g) ⟨rfl, rfl, rfl, by simp [World.setRow], fun k _ hk => by simp only [World.setRow, Array.getElem?_modify]; rw [if_neg (fun e => hk e.symm)]⟩ (fun i hi => by rw [hi]; exact hg)
theorem two_ways (H : TwoWays P ops Q w0 F va vb Z t GA GB blk) (s0 s1 s2 s3 s4 s5 : Value)
    (hQ : ∀ s0 s2 C D h1 h2 w, GA C w → GB D w → w.heap[h1]? = some (.cells C t (0, 0)) → w.heap[h2]? = some (.cells D t (0, 0)) → h1 ≠ h2 → w0.heap.size ≤ h1 → w0.heap.size ≤ h2 → Fr No w0 w → (∀ k, blk C k → k ≠ h1 ∧ k ≠ h2 ∧ k < w.heap.size) → (∀ k, blk D k → k ≠ h1 ∧ k ≠ h2 ∧ k < w.heap.size) →
      Q .normal (F s0 (.agg C) s2 (.agg D) (.pointer (some ⟨h1, 0, none⟩)) (.pointer (some ⟨h2, 0, none⟩))) w) : wpAny P .any ops Q ops.size (Array.replicate ops.size false) (F s0 s1 s2 s3 s4 s5) w0.drew := by
  have key := wpAny_inv (P := P) (ops := ops) (Q := Q) (md := .any) (fun n L a w => ∃ l0 c0 l1 c1 x y p q, L = #[l0, c0, l1, c1, x, y, p, q] ∧ n + l0.toNat + c0.toNat + l1.toNat + c1.toNat + x.toNat + y.toNat + p.toNat + q.toNat = 8 ∧ (c0 = true → l0 = true) ∧ (c1 = true → l1 = true) ∧ (p = true → c0 = true ∧ c1 = true ∧ x = true ∧ y = true) ∧ (q = true → p = true) ∧ TwoAt w0 F va vb Z t GA GB blk l0 c0 l1 c1 x y p q a w) ?_ ?_ ?_
  · rw [H.size]
    refine key 8 _ _ _ ⟨false, false, false, false, false, false, false, false, rfl, rfl, fun h => h, fun h => h, fun h => (by cases h), fun h => h, s0, s1, s2, s3, s4, s5, #[], #[], 0, 0, rfl, fun h => (by cases h), fun h => (by cases h), fun h => (by cases h), fun h => (by cases h), fun h => (by cases h), fun h => (by cases h), ⟨fun h => (by cases h), fun h => (by cases h), fun h => (by cases h), fun h => (by cases h)⟩, fun h => (by cases h), (Fr.refl No w0).drew⟩
  · rintro n L a w ⟨l0, c0, l1, c1, x, y, p, q, rfl, hn, i0, i1, ip, iq, r0, r1, r2, r3, r4, r5, C, D, h1, h2, rfl, e0, e1, gC, gD, n1, n2, ⟨f1, f2, f3, f4⟩, hne, hF⟩ i hi
    have hr := (twoAll_at H.all l0 c0 l1 c1 x y p q).1 i hi
    match i, hr with
    | 0, hr =>
      have hb : l0 = false := by simpa [twoReady] using hr
      subst hb
      obtain ⟨o, ho, hg, hs⟩ := H.o0
      refine ⟨o, ho, hg, hs _ _ _ _ _ _ _ _ hF ?_⟩
      exact ⟨true, c0, l1, c1, x, y, p, q, rfl, by simp only [Bool.toNat_true, Bool.toNat_false] at hn ⊢; omega, fun _ => rfl, i1, ip, iq, va, r1, r2, r3, r4, r5, C, D, h1, h2, rfl, fun _ => rfl, e1, gC, gD, n1, n2, ⟨f1, f2, f3, f4⟩, hne, hF⟩
    | 1, hr =>
      have hb : l0 = true ∧ c0 = false := by simpa [twoReady] using hr
      obtain ⟨rfl, rfl⟩ := hb
      obtain rfl := e0 rfl
      have hp : p = false := by cases p with
        | false => rfl
        | true => exact absurd (ip rfl).1 (by simp)
      have hq : q = false := by cases q with
        | false => rfl
        | true => exact absurd (iq rfl) (by simp [hp])
      subst hp hq
      obtain ⟨o, ho, hg, hs⟩ := H.o1
      refine ⟨o, ho, hg, hs _ _ _ _ _ _ _ hF fun C' w' g' b' f' => ?_⟩
      exact ⟨true, true, l1, c1, x, y, false, false, rfl, by simp only [Bool.toNat_true, Bool.toNat_false] at hn ⊢; omega, fun _ => rfl, i1, fun h => (by cases h), fun h => h, r0, _, r2, r3, r4, r5, C', D, h1, h2, rfl, fun _ => rfl, e1, fun _ => ⟨rfl, g', fun k hk => (b' k hk).2⟩, gD.fr H.gb f' (fun _ _ _ k => k),
        n1.fr f' (fun k => k), n2.fr f' (fun k => k), ⟨fun _ hx k hk => by have := n1.lt hx; have := (b' k hk).1; omega, fun _ hy k hk => by have := n2.lt hy; have := (b' k hk).1; omega, f3, f4⟩, hne, hF.trans f' (fun _ k => k.elim)⟩
    | 2, hr =>
      have hb : l1 = false := by simpa [twoReady] using hr
      subst hb
      obtain ⟨o, ho, hg, hs⟩ := H.o2
      refine ⟨o, ho, hg, hs _ _ _ _ _ _ _ _ hF ?_⟩
      exact ⟨l0, c0, true, c1, x, y, p, q, rfl, by simp only [Bool.toNat_true, Bool.toNat_false] at hn ⊢; omega, i0, fun _ => rfl, ip, iq, r0, r1, vb, r3, r4, r5, C, D, h1, h2, rfl, e0, fun _ => rfl, gC, gD, n1, n2, ⟨f1, f2, f3, f4⟩, hne, hF⟩
    | 3, hr =>
      have hb : (c0 = true ∧ l1 = true) ∧ c1 = false := by simpa [twoReady] using hr
      obtain ⟨⟨rfl, rfl⟩, rfl⟩ := hb
      obtain rfl := e1 rfl
      have hp : p = false := by cases p with
        | false => rfl
        | true => exact absurd (ip rfl).2.1 (by simp)
      have hq : q = false := by cases q with
        | false => rfl
        | true => exact absurd (iq rfl) (by simp [hp])
      subst hp hq
      obtain ⟨o, ho, hg, hs⟩ := H.o3
      refine ⟨o, ho, hg, hs _ _ _ _ _ _ _ hF fun D' w' g' b' f' => ?_⟩
      exact ⟨l0, true, true, true, x, y, false, false, rfl, by simp only [Bool.toNat_true, Bool.toNat_false] at hn ⊢; omega, i0, fun _ => rfl, fun h => (by cases h), fun h => h, r0, r1, r2, _, r4, r5, C, D', h1, h2, rfl, e0, fun _ => rfl, gC.fr H.ga f' (fun _ _ _ k => k), fun _ => ⟨rfl, g', fun k hk => (b' k hk).2⟩,
        n1.fr f' (fun k => k), n2.fr f' (fun k => k), ⟨f1, f2, fun _ hx k hk => by have := n1.lt hx; have := (b' k hk).1; omega, fun _ hy k hk => by have := n2.lt hy; have := (b' k hk).1; omega⟩, hne, hF.trans f' (fun _ k => k.elim)⟩
    | 4, hr =>
      have hb : x = false := by simpa [twoReady] using hr
      subst hb
      have hp : p = false := by cases p with
        | false => rfl
        | true => exact absurd (ip rfl).2.2.1 (by simp)
      have hq : q = false := by cases q with
        | false => rfl
        | true => exact absurd (iq rfl) (by simp [hp])
      subst hp hq
      have f' : Fr No w (w.alloc (.cells Z t)) := (Fr.refl No w).alloc _
      obtain ⟨o, ho, hg, hs⟩ := H.o4
      refine ⟨o, ho, hg, hs _ _ _ _ _ _ _ _ ?_⟩
      exact ⟨l0, c0, l1, c1, true, y, false, false, rfl, by simp only [Bool.toNat_true, Bool.toNat_false] at hn ⊢; omega, i0, i1, fun h => (by cases h), fun h => h, r0, r1, r2, r3, _, r5, C, D, w.heap.size, h2, rfl, e0, e1, gC.fr H.ga f' (fun _ _ _ k => k), gD.fr H.gb f' (fun _ _ _ k => k),
        fun _ => ⟨rfl, hF.size, blk_new _ _⟩, n2.fr f' (fun k => k), ⟨fun hc _ k hk => Nat.ne_of_lt ((gC hc).2.2 k hk), f2, fun hc _ k hk => Nat.ne_of_lt ((gD hc).2.2 k hk), f4⟩, fun _ hy => Nat.ne_of_gt (n2.lt hy), hF.trans f' (fun _ k => k.elim)⟩
    | 5, hr =>
      have hb : y = false := by simpa [twoReady] using hr
      subst hb
      have hp : p = false := by cases p with
        | false => rfl
        | true => exact absurd (ip rfl).2.2.2 (by simp)
      have hq : q = false := by cases q with
        | false => rfl
        | true => exact absurd (iq rfl) (by simp [hp])
      subst hp hq
      have f' : Fr No w (w.alloc (.cells Z t)) := (Fr.refl No w).alloc _
      obtain ⟨o, ho, hg, hs⟩ := H.o5
      refine ⟨o, ho, hg, hs _ _ _ _ _ _ _ _ ?_⟩
      exact ⟨l0, c0, l1, c1, x, true, false, false, rfl, by simp only [Bool.toNat_true, Bool.toNat_false] at hn ⊢; omega, i0, i1, fun h => (by cases h), fun h => h, r0, r1, r2, r3, r4, _, C, D, h1, w.heap.size, rfl, e0, e1, gC.fr H.ga f' (fun _ _ _ k => k), gD.fr H.gb f' (fun _ _ _ k => k),
        n1.fr f' (fun k => k), fun _ => ⟨rfl, hF.size, blk_new _ _⟩, ⟨f1, fun hc _ k hk => Nat.ne_of_lt ((gC hc).2.2 k hk), f3, fun hc _ k hk => Nat.ne_of_lt ((gD hc).2.2 k hk)⟩, fun hx _ => Nat.ne_of_lt (n1.lt hx), hF.trans f' (fun _ k => k.elim)⟩
    | 6, hr =>
      have hb : (((c0 = true ∧ c1 = true) ∧ x = true) ∧ y = true) ∧ p = false := by simpa [twoReady] using hr
      obtain ⟨⟨⟨⟨rfl, rfl⟩, rfl⟩, rfl⟩, rfl⟩ := hb
      have hq : q = false := by cases q with
        | false => rfl
        | true => exact absurd (iq rfl) (by simp)
      subst hq
      obtain ⟨m1, m2, m3⟩ := n1 rfl
      obtain ⟨z1, z2, z3⟩ := gC rfl
      subst m1 z1
      have f' : Fr (fun k => k = h1) w (w.setRow h1 C) := two_row (Fr.refl _ w) (.inl rfl)
      have f0 : Fr No w0 (w.setRow h1 C) := two_row hF (.inr m2)
      obtain ⟨o, ho, hg, hs⟩ := H.o6
      refine ⟨o, ho, hg, hs _ _ _ _ _ _ _ _ z2 (by simpa using m3) ?_⟩
      exact ⟨l0, true, l1, true, true, true, true, false, rfl, by simp only [Bool.toNat_true, Bool.toNat_false] at hn ⊢; omega, i0, i1, fun _ => ⟨rfl, rfl, rfl, rfl⟩, fun h => (by cases h), r0, _, r2, r3, _, r5, C, D, h1, h2, rfl, e0, e1, Got.fr H.ga gC f' (fun _ k hk => f1 rfl rfl k hk), Got.fr H.gb gD f' (fun _ k hk => f3 rfl rfl k hk),
        fun _ => ⟨rfl, m2, setRow_heap w h1 _ C t (0, 0) m3⟩, n2.fr f' (fun e => hne rfl rfl e.symm), ⟨f1, f2, f3, f4⟩, hne, f0⟩
    | 7, hr =>
      have hb : p = true ∧ q = false := by simpa [twoReady] using hr
      obtain ⟨rfl, rfl⟩ := hb
      obtain ⟨rfl, rfl, rfl, rfl⟩ := ip rfl
      obtain ⟨m1, m2, m3⟩ := n2 rfl
      obtain ⟨z1, z2, z3⟩ := gD rfl
      subst m1 z1
      have f' : Fr (fun k => k = h2) w (w.setRow h2 D) := two_row (Fr.refl _ w) (.inl rfl)
      have f0 : Fr No w0 (w.setRow h2 D) := two_row hF (.inr m2)
      obtain ⟨o, ho, hg, hs⟩ := H.o7
      refine ⟨o, ho, hg, hs _ _ _ _ _ _ _ _ z2 (by simpa using m3) ?_⟩
      exact ⟨l0, true, l1, true, true, true, true, true, rfl, by simp only [Bool.toNat_true, Bool.toNat_false] at hn ⊢; omega, i0, i1, fun _ => ⟨rfl, rfl, rfl, rfl⟩, fun _ => rfl, r0, r1, r2, _, r4, _, C, D, h1, h2, rfl, e0, e1, Got.fr H.ga gC f' (fun _ k hk => f2 rfl rfl k hk), Got.fr H.gb gD f' (fun _ k hk => f4 rfl rfl k hk),
        n1.fr f' (fun e => hne rfl rfl e), fun _ => ⟨rfl, m2, setRow_heap w h2 _ D t (0, 0) m3⟩, ⟨f1, f2, f3, f4⟩, hne, f0⟩
    | _ + 8, hr => simp [twoReady] at hr
  · rintro n L a w ⟨l0, c0, l1, c1, x, y, p, q, rfl, hn, i0, i1, ip, iq, r0, r1, r2, r3, r4, r5, C, D, h1, h2, rfl, e0, e1, gC, gD, n1, n2, ⟨f1, f2, f3, f4⟩, hne, hF⟩ he
    obtain ⟨⟨rfl, rfl, rfl, rfl⟩, rfl, rfl, rfl, rfl⟩ := (twoAll_at H.all l0 c0 l1 c1 x y p q).2 he
    obtain ⟨m1, m2, m3⟩ := n1 rfl
    obtain ⟨k1, k2, k3⟩ := n2 rfl
    obtain ⟨z1, z2, z3⟩ := gC rfl
    obtain ⟨y1, y2, y3⟩ := gD rfl
    subst m1 k1 z1 y1
    exact hQ _ _ C D h1 h2 w z2 y2 (by simpa using m3) (by simpa using k3) (hne rfl rfl) m2 k2 hF (fun k hk => ⟨f1 rfl rfl k hk, f2 rfl rfl k hk, z3 k hk⟩) (fun k hk => ⟨f3 rfl rfl k hk, f4 rfl rfl k hk, y3 k hk⟩)
  · rintro L a w ⟨l0, c0, l1, c1, x, y, p, q, rfl, hn, i0, i1, ip, iq, _⟩
    have hall : l0 = true ∧ c0 = true ∧ l1 = true ∧ c1 = true ∧ x = true ∧ y = true ∧ p = true ∧ q = true := by
      cases l0 <;> cases c0 <;> cases l1 <;> cases c1 <;> cases x <;> cases y <;> cases p <;> cases q <;> simp at hn ⊢
    obtain ⟨rfl, rfl, rfl, rfl, rfl, rfl, rfl, rfl⟩ := hall
    have h2 := (twoAll_at H.all true true true true true true true true).1
    cases hl : Region.ready .any ops #[true, true, true, true, true, true, true, true] with
    | nil => rfl
    | cons i r =>
      have := h2 i (by rw [hl]; exact List.mem_cons_self ..)
      match i, this with
      | 0, h => simp [twoReady] at h
      | 1, h => simp [twoReady] at h
      | 2, h => simp [twoReady] at h
      | 3, h => simp [twoReady] at h
      | 4, h => simp [twoReady] at h
      | 5, h => simp [twoReady] at h
      | 6, h => simp [twoReady] at h
      | 7, h => simp [twoReady] at h
      | _ + 8, h => simp [twoReady] at h
end
end Go.Proofs.Ytfnlimcgoeknjaa
