import Derived.Test.YtfnlimcgoeknjaaBackX
namespace Go.Proofs.Ytfnlimcgoeknjaa
open Go.RowKit Go Fl

/-! ### Any numbers: their lowest bits -/
theorem fo_seL (b : List Bool) (x : Int × Int × Int) : Fo b (seN (pack b)) (seV (pack b)) (seE x) (u64 x.1 % 2 ^ 16, u64 x.2.1 % 2 ^ 8, u64 x.2.2 % 2 ^ 8) := fun u y hb => by
  have e : seE x = putBits (u64 x.1) 16 ++ putBits (u64 x.2.1) 8 ++ putBits (u64 x.2.2) 8 := by simp [seE, numB]
  rw [e] at hb ⊢
  obtain ⟨a1, a2⟩ := read_put (b := b) u (putBits (u64 x.2.1) 8 ++ putBits (u64 x.2.2) 8 ++ y) (u64 x.1) 16 (by rw [hb]; simp [List.append_assoc])
  obtain ⟨b1, b2⟩ := read_put (b := b) (u ++ putBits (u64 x.1) 16) (putBits (u64 x.2.2) 8 ++ y) (u64 x.2.1) 8 (by rw [hb]; simp [List.append_assoc])
  obtain ⟨c1, c2⟩ := read_put (b := b) (u ++ putBits (u64 x.1) 16 ++ putBits (u64 x.2.1) 8) y (u64 x.2.2) 8 (by rw [hb]; simp [List.append_assoc])
  unfold seV seN
  rw [a2, a1, b1, b2, c1, c2]
  exact ⟨rfl, by simp [List.append_assoc]⟩
theorem fo_poL (b : List Bool) (x : Int × Int × Int × Int) : Fo b (poN (pack b)) (poV (pack b)) (poE x) (u64 x.1 % 2 ^ 8, u64 x.2.1 % 2 ^ 8, u64 x.2.2.1 % 2 ^ 8, u64 x.2.2.2 % 2 ^ 8) := fun u y hb => by
  have e : poE x = putBits (u64 x.1) 8 ++ putBits (u64 x.2.1) 8 ++ putBits (u64 x.2.2.1) 8 ++ putBits (u64 x.2.2.2) 8 := by simp [poE, numB]
  rw [e] at hb ⊢
  obtain ⟨a1, a2⟩ := read_put (b := b) u (putBits (u64 x.2.1) 8 ++ putBits (u64 x.2.2.1) 8 ++ putBits (u64 x.2.2.2) 8 ++ y) (u64 x.1) 8 (by rw [hb]; simp [List.append_assoc])
  obtain ⟨b1, b2⟩ := read_put (b := b) (u ++ putBits (u64 x.1) 8) (putBits (u64 x.2.2.1) 8 ++ putBits (u64 x.2.2.2) 8 ++ y) (u64 x.2.1) 8 (by rw [hb]; simp [List.append_assoc])
  obtain ⟨c1, c2⟩ := read_put (b := b) (u ++ putBits (u64 x.1) 8 ++ putBits (u64 x.2.1) 8) (putBits (u64 x.2.2.2) 8 ++ y) (u64 x.2.2.1) 8 (by rw [hb]; simp [List.append_assoc])
  obtain ⟨d1, d2⟩ := read_put (b := b) (u ++ putBits (u64 x.1) 8 ++ putBits (u64 x.2.1) 8 ++ putBits (u64 x.2.2.1) 8) y (u64 x.2.2.2) 8 (by rw [hb]; simp [List.append_assoc])
  unfold poV poN
  rw [a2, a1, b1, b2, c1, c2, d1, d2]
  exact ⟨rfl, by simp [List.append_assoc]⟩
theorem fo_inL (b : List Bool) (v : Int) : Fo b (tnN (pack b)) (tnV (pack b)) (inE v) (u64 v % 2 ^ 8) := fun u y hb => by
  have e : inE v = putBits (u64 v) 8 := by simp [inE, numB]
  rw [e] at hb ⊢
  obtain ⟨a1, a2⟩ := read_put (b := b) u y (u64 v) 8 hb
  unfold tnV tnN
  rw [a1, a2]
  exact ⟨rfl, rfl⟩
theorem fo_rowL (b : List Bool) (x : List Int) (h : x.length < 256) : Fo b (inN (pack b)) (inV (pack b)) (roE x) (x.map fun v => u64 v % 2 ^ 8) :=
  fo_list inE (fun v => u64 v % 2 ^ 8) x h fun v _ => fo_inL b v
/-- Few enough of each, and places that are there. -/
structure FewL (L : Lay) : Prop where
  no : L.no.length < 256 ∧ ∀ x ∈ L.no, (-2147483648 ≤ x.1 ∧ x.1 < 2147483648) ∧ -2147483648 ≤ x.2 ∧ x.2 < 2147483648
  se : L.se.length < 256
  pa : L.pa.length < 256 ∧ ∀ x ∈ L.pa, x.length < 256
  po : L.po.length < 256
  ro : L.ro.length < 256 ∧ ∀ x ∈ L.ro, x.length < 256
theorem q_low (L : Lay) (h : FewL L) : (layOf (pack (restBits L))).no = L.no ∧ qE (pack (restBits L)) = ((restBits L).length, false) := by
  obtain ⟨hno, hse, hpa, hpo, hro⟩ := h
  obtain ⟨b, hb⟩ : ∃ b, restBits L = b := ⟨_, rfl⟩
  rw [hb]
  have hb' := hb.symm
  unfold restBits at hb'
  have hn5 : numB 16 [L.sp, L.mu, L.wa, L.ca, L.st] = putBits (u64 L.sp) 16 ++ putBits (u64 L.mu) 16 ++ putBits (u64 L.wa) 16 ++ putBits (u64 L.ca) 16 ++ putBits (u64 L.st) 16 := by simp [numB]
  rw [hn5] at hb'
  obtain ⟨v1, s1⟩ := fo_list (b := b) (f := cxN (pack b)) (g := cxV (pack b)) noE id L.no hno.1 (fun x hx => fo_no b x (hno.2 x hx)) [] _ (by rw [hb']; simp only [List.append_assoc, List.nil_append]; rfl)
  obtain ⟨_, s2⟩ := fo_list (b := b) (f := seN (pack b)) (g := seV (pack b)) seE _ L.se hse (fun x _ => fo_seL b x) ([] ++ layB noE L.no) _ (by rw [hb']; simp only [List.append_assoc, List.nil_append]; rfl)
  obtain ⟨_, s3⟩ := fo_list (b := b) (f := inN (pack b)) (g := inV (pack b)) roE _ L.pa hpa.1 (fun x hx => fo_rowL b x (hpa.2 x hx)) ([] ++ layB noE L.no ++ layB seE L.se) _ (by rw [hb']; simp only [List.append_assoc, List.nil_append]; rfl)
  obtain ⟨_, s4⟩ := fo_list (b := b) (f := poN (pack b)) (g := poV (pack b)) poE _ L.po hpo (fun x _ => fo_poL b x) ([] ++ layB noE L.no ++ layB seE L.se ++ layB roE L.pa) _ (by rw [hb']; simp only [List.append_assoc, List.nil_append]; rfl)
  obtain ⟨_, s5⟩ := fo_list (b := b) (f := inN (pack b)) (g := inV (pack b)) roE _ L.ro hro.1 (fun x hx => fo_rowL b x (hro.2 x hx)) ([] ++ layB noE L.no ++ layB seE L.se ++ layB roE L.pa ++ layB poE L.po) _ (by rw [hb']; simp only [List.append_assoc, List.nil_append]; rfl)
  obtain ⟨X, hX⟩ : ∃ X, [] ++ layB noE L.no ++ layB seE L.se ++ layB roE L.pa ++ layB poE L.po ++ layB roE L.ro = X := ⟨_, rfl⟩
  rw [hX] at s5
  have hbX : b = X ++ (putBits (u64 L.sp) 16 ++ putBits (u64 L.mu) 16 ++ putBits (u64 L.wa) 16 ++ putBits (u64 L.ca) 16 ++ putBits (u64 L.st) 16) := by rw [hb', ← hX]; simp only [List.append_assoc, List.nil_append]
  obtain ⟨_, s6⟩ := read_put (b := b) X (putBits (u64 L.mu) 16 ++ putBits (u64 L.wa) 16 ++ putBits (u64 L.ca) 16 ++ putBits (u64 L.st) 16) (u64 L.sp) 16 (by rw [hbX]; simp only [List.append_assoc])
  obtain ⟨_, s7⟩ := read_put (b := b) (X ++ putBits (u64 L.sp) 16) (putBits (u64 L.wa) 16 ++ putBits (u64 L.ca) 16 ++ putBits (u64 L.st) 16) (u64 L.mu) 16 (by rw [hbX]; simp only [List.append_assoc])
  obtain ⟨_, s8⟩ := read_put (b := b) (X ++ putBits (u64 L.sp) 16 ++ putBits (u64 L.mu) 16) (putBits (u64 L.ca) 16 ++ putBits (u64 L.st) 16) (u64 L.wa) 16 (by rw [hbX]; simp only [List.append_assoc])
  obtain ⟨_, s9⟩ := read_put (b := b) (X ++ putBits (u64 L.sp) 16 ++ putBits (u64 L.mu) 16 ++ putBits (u64 L.wa) 16) (putBits (u64 L.st) 16) (u64 L.ca) 16 (by rw [hbX]; simp only [List.append_assoc])
  obtain ⟨_, sE⟩ := read_put (b := b) (X ++ putBits (u64 L.sp) 16 ++ putBits (u64 L.mu) 16 ++ putBits (u64 L.wa) 16 ++ putBits (u64 L.ca) 16) [] (u64 L.st) 16 (by rw [hbX]; simp only [List.append_assoc, List.append_nil])
  have p1 : q1 (pack b) = (([] ++ layB noE L.no).length, false) := s1
  have p2 : q2 (pack b) = (([] ++ layB noE L.no ++ layB seE L.se).length, false) := by unfold q2; rw [p1]; exact s2
  have p3 : q3 (pack b) = (([] ++ layB noE L.no ++ layB seE L.se ++ layB roE L.pa).length, false) := by unfold q3; rw [p2]; exact s3
  have p4 : q4 (pack b) = (([] ++ layB noE L.no ++ layB seE L.se ++ layB roE L.pa ++ layB poE L.po).length, false) := by unfold q4; rw [p3]; exact s4
  have p5 : q5 (pack b) = (X.length, false) := by unfold q5; rw [p4]; exact s5
  have p6 : q6 (pack b) = ((X ++ putBits (u64 L.sp) 16).length, false) := by unfold q6; rw [p5]; exact s6
  have p7 : q7 (pack b) = ((X ++ putBits (u64 L.sp) 16 ++ putBits (u64 L.mu) 16).length, false) := by unfold q7; rw [p6]; exact s7
  have p8 : q8 (pack b) = ((X ++ putBits (u64 L.sp) 16 ++ putBits (u64 L.mu) 16 ++ putBits (u64 L.wa) 16).length, false) := by unfold q8; rw [p7]; exact s8
  have p9 : q9 (pack b) = ((X ++ putBits (u64 L.sp) 16 ++ putBits (u64 L.mu) 16 ++ putBits (u64 L.wa) 16 ++ putBits (u64 L.ca) 16).length, false) := by unfold q9; rw [p8]; exact s9
  have pE : qE (pack b) = (b.length, false) := by unfold qE; rw [p9, sE, hbX]; simp only [List.append_assoc]
  refine ⟨?_, pE⟩
  show liL (cxV (pack b)) (cxN (pack b)) (pack b) (0, false) = L.no
  rw [show ((0 : Nat), false) = (([] : List Bool).length, false) from rfl, v1]; simp
theorem dec_low (L : Lay) (h : FewL L) : ∃ M, decAL (closed (pack (layBits L))) = (M, 0) ∧ M.no = L.no := by
  obtain ⟨h1, h2⟩ := q_low L h
  have h8 := eight_rest L
  refine ⟨layOf (pack (restBits L)), ?_, h1⟩
  rw [decAL_closed, if_pos (pack_take2 L), pack_letters]
  unfold decL
  rw [h2, if_neg (by simp), if_neg]
  · rfl
  · unfold left
    rw [pack_length]
    simp
    omega

theorem lit_rdn {w : World} {b k n : Nat} {cs : List Value} {t : TypeId} {fr : Nat × Nat} (h : w.heap[b]? = some (.cells cs.toArray t fr)) (hl : cs.length = n * k) (hn : n ≤ 9223372036854775807) : RdK w (some ⟨b, 0, none⟩) k n cs :=
  ⟨hl, hn, fun j hj => ⟨_, rfl, by
    rw [addr_add0, blk_cell h]
    have hj' : j < cs.length := by omega
    simp [List.getD_eq_getElem?_getD, hj']⟩⟩
theorem lit_rd1 {w : World} {b : Nat} {l : List Int} {t : TypeId} {fr : Nat × Nat} (h : w.heap[b]? = some (.cells (ints .i64 l).toArray t fr)) (hn : l.length ≤ 9223372036854775807) : Rd w (some ⟨b, 0, none⟩) (ints .i64 l) := by
  have r := lit_rdn (k := 1) (n := l.length) h (by rw [ints_length]; omega) hn
  exact ⟨by rw [ints_length]; exact hn, fun j hj => r.2.2 j (by rw [ints_length] at hj; omega)⟩
theorem LayU.fr' {w w1 : World} {L : Lay} {C : Array Value} (h : LayU w L C) (f : Fr No w w1) : LayU w1 L C := by
  obtain ⟨An, cn, As, cs, Ap, cp, Aq, cq, Ar, cr, Mp, Mr, e, ⟨h1, u1⟩, ⟨h2, u2⟩, ⟨h3, u3, x3, e3⟩, ⟨h4, u4⟩, h5, u5, x5, e5⟩ := h
  have up : ∀ {A : Option Addr}, Up w A → Up w1 A := fun u ad e => Nat.lt_of_lt_of_le (u ad e) f.size
  exact ⟨An, cn, As, cs, Ap, cp, Aq, cq, Ar, cr, Mp, Mr, e, ⟨h1.no f, up u1⟩, ⟨h2.no f, up u2⟩, ⟨h3.fr f (fun _ _ k => k), up u3, fun x hx => up (x3 x hx), e3⟩, ⟨h4.no f, up u4⟩, h5.fr f (fun _ _ k => k), up u5, fun x hx => up (x5 x hx), e5⟩
/-- The law's layout. -/
def numL (px py n a b t0 t1 t2 t3 : Int) : Lay := ⟨[(px, py)], [(n, a, b)], [[a, b], []], [(b, a, n, b)], [[n]], b, t0, t1, t2, t3⟩
theorem numL_few (px py n a b t0 t1 t2 t3 : Int) (hx : px.natAbs ≤ 1000000) (hy : py.natAbs ≤ 1000000) : FewL (numL px py n a b t0 t1 t2 t3) := by
  refine ⟨⟨by simp [numL], fun x h => ?_⟩, by simp [numL], ⟨by simp [numL], fun x h => ?_⟩, by simp [numL], ⟨by simp [numL], fun x h => ?_⟩⟩
  · have h' : x ∈ [(px, py)] := h
    simp at h'
    subst h'
    dsimp only
    omega
  · have h' : x ∈ [[a, b], []] := h
    simp at h'
    rcases h' with rfl | rfl <;> simp
  · have h' : x ∈ [[n]] := h
    simp at h'
    subst h'
    simp
theorem numL_bits (px py n a b t0 t1 t2 t3 : Int) : (layBits (numL px py n a b t0 t1 t2 t3)).length = 312 := by
  rw [layBits_rest]
  simp [restBits, numL, layB, noE, seE, roE, poE, inE, numB, putBits_length]
end Go.Proofs.Ytfnlimcgoeknjaa
