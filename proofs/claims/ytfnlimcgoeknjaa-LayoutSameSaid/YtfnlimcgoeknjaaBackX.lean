import Derived.Test.YtfnlimcgoeknjaaDraX
import Derived.Test.YtfnlimcgoeknjaaEncT
import Derived.Test.YtfnlimcgoeknjaaLawsL
namespace Go.Proofs.Ytfnlimcgoeknjaa
open Go.RowKit Go Fl

/-! ### Bits that are read as they were laid -/
theorem read_put {b : List Bool} (x y : List Bool) (N m : Nat) (hb : b = x ++ putBits N m ++ y) :
    gt (pack b) (x.length, false) m = N % 2 ^ m ∧ nx (pack b) (x.length, false) m = ((x ++ putBits N m).length, false) := by
  have hle : x.length + m ≤ b.length := by rw [hb]; simp only [List.length_append, putBits_length]; omega
  have ho : over (pack b) x.length false m = false := by
    unfold over left
    rw [pack_length]
    simp
    omega
  refine ⟨?_, ?_⟩
  · unfold gt got
    simp only
    rw [if_neg (by rw [ho]; decide)]
    rw [num_congr (g := bitAt b) (t := x.length) (fun j _ => bitAt_pack _ _), hb]
    exact num_put x y N m
  · unfold nx nextAt
    simp only
    rw [if_neg (by rw [ho]; decide), ho, List.length_append, putBits_length]
    rfl
theorem pack_drop (x y : List Bool) (n : Nat) (hx : x.length = 8 * n) : (pack (x ++ y)).drop n = pack y := by
  apply bytes_ext
  · rw [List.length_drop, pack_length, pack_length, List.length_append]; omega
  · intro i _
    rw [List.getD_eq_getElem?_getD, List.getElem?_drop, ← List.getD_eq_getElem?_getD, pack_getD, pack_getD]
    apply byte_ext
    intro j hj
    rw [byteOf_testBit, byteOf_testBit, show 8 * (n + i) + (7 - j) = x.length + (8 * i + (7 - j)) by omega, bitAt_append_right]

/-- f reads what e laid, g says v. -/
def Fo {α : Type} (b : List Bool) (f : Pl → Pl) (g : Pl → α) (e : List Bool) (v : α) : Prop := ∀ x y, b = x ++ e ++ y → g (x.length, false) = v ∧ f (x.length, false) = ((x ++ e).length, false)
theorem fo_num (b : List Bool) (N m : Nat) : Fo b (fun s => nx (pack b) s m) (fun s => gt (pack b) s m) (putBits N m) (N % 2 ^ m) := fun x y h => read_put x y N m h
theorem it_put {α β : Type} {b : List Bool} {f : Pl → Pl} {g : Pl → α} (E : β → List Bool) (V : β → α) (l : List β) (h : ∀ v ∈ l, Fo b f g (E v) (V v)) (x y : List Bool) (hb : b = x ++ l.flatMap E ++ y) :
    ∀ k, k ≤ l.length → itL g f (x.length, false) k = (l.take k).map V ∧ itS f (x.length, false) k = ((x ++ (l.take k).flatMap E).length, false)
  | 0, _ => by simp [itL, itS]
  | k + 1, hk => by
    obtain ⟨e1, e2⟩ := it_put E V l h x y hb k (by omega)
    have hk' : k < l.length := by omega
    have hs : l.flatMap E = (l.take k).flatMap E ++ E l[k] ++ (l.drop (k + 1)).flatMap E := by
      rw [← flat_snoc E l k hk', ← List.flatMap_append, List.take_append_drop]
    obtain ⟨r1, r2⟩ := h l[k] (List.getElem_mem hk') (x ++ (l.take k).flatMap E) ((l.drop (k + 1)).flatMap E ++ y) (by rw [hb, hs]; simp [List.append_assoc])
    refine ⟨?_, ?_⟩
    · show itL g f (x.length, false) k ++ [g (itS f (x.length, false) k)] = _
      rw [e1, e2, r1, List.take_succ_eq_append_getElem hk', List.map_append]
      rfl
    · show f (itS f (x.length, false) k) = _
      rw [e2, r2, flat_snoc E l k hk', List.append_assoc]
theorem fo_list {α β : Type} {b : List Bool} {f : Pl → Pl} {g : Pl → α} (E : β → List Bool) (V : β → α) (l : List β) (hl : l.length < 256) (h : ∀ v ∈ l, Fo b f g (E v) (V v)) :
    Fo b (liS f (pack b)) (liL g f (pack b)) (layB E l) (l.map V) := fun x y hb => by
  unfold layB at hb ⊢
  obtain ⟨r1, r2⟩ := read_put (b := b) x (l.flatMap E ++ y) l.length 8 (by rw [hb]; simp [List.append_assoc])
  rw [Nat.mod_eq_of_lt (by omega)] at r1
  obtain ⟨i1, i2⟩ := it_put E V l h (x ++ putBits l.length 8) y (by rw [hb]; simp [List.append_assoc]) l.length (Nat.le_refl _)
  unfold liL liS
  rw [r1, r2, i1, i2, List.take_length]
  exact ⟨rfl, by simp [List.append_assoc]⟩

theorem u64_mod (v : Int) (m : Nat) (h0 : 0 ≤ v) (h : v < 2 ^ m) (hm : m ≤ 63) : u64 v % 2 ^ m = v.toNat := by
  have h63 : (2 : Int) ^ m ≤ 2 ^ 63 := by exact_mod_cast Nat.pow_le_pow_right (by omega : 0 < 2) hm
  have hu : u64 v = v.toNat := by unfold u64; omega
  rw [hu, Nat.mod_eq_of_lt]
  have : v < ((2 ^ m : Nat) : Int) := by exact_mod_cast h
  omega
theorem sx_u64 (v : Int) (h0 : -2147483648 ≤ v) (h : v < 2147483648) : sx (u64 v % 2 ^ 32) = v := by
  have hu : ((u64 v % 2 ^ 32 : Nat) : Int) = v % 4294967296 := by unfold u64; omega
  unfold sx
  split <;> omega

/-- A layout that is read as it was written. -/
structure GoodL (L : Lay) : Prop where
  no : L.no.length < 256 ∧ ∀ x ∈ L.no, (-2147483648 ≤ x.1 ∧ x.1 < 2147483648) ∧ -2147483648 ≤ x.2 ∧ x.2 < 2147483648
  se : L.se.length < 256 ∧ ∀ x ∈ L.se, (0 ≤ x.1 ∧ x.1 < 65536) ∧ (0 ≤ x.2.1 ∧ x.2.1 < 256) ∧ 0 ≤ x.2.2 ∧ x.2.2 < 256
  pa : L.pa.length < 256 ∧ ∀ x ∈ L.pa, x.length < 256 ∧ ∀ v ∈ x, 0 ≤ v ∧ v < 256
  po : L.po.length < 256 ∧ ∀ x ∈ L.po, (0 ≤ x.1 ∧ x.1 < 256) ∧ (0 ≤ x.2.1 ∧ x.2.1 < 256) ∧ (0 ≤ x.2.2.1 ∧ x.2.2.1 < 256) ∧ 0 ≤ x.2.2.2 ∧ x.2.2.2 < 256
  ro : L.ro.length < 256 ∧ ∀ x ∈ L.ro, x.length < 256 ∧ ∀ v ∈ x, 0 ≤ v ∧ v < 256
  nu : (0 ≤ L.sp ∧ L.sp < 65536) ∧ (0 ≤ L.mu ∧ L.mu < 65536) ∧ (0 ≤ L.wa ∧ L.wa < 65536) ∧ (0 ≤ L.ca ∧ L.ca < 65536) ∧ 0 ≤ L.st ∧ L.st < 65536
theorem num_one (m : Nat) (v : Int) : numB m [v] = putBits (u64 v) m := by simp [numB]
theorem fo_no (b : List Bool) (x : Int × Int) (h : (-2147483648 ≤ x.1 ∧ x.1 < 2147483648) ∧ -2147483648 ≤ x.2 ∧ x.2 < 2147483648) : Fo b (cxN (pack b)) (cxV (pack b)) (noE x) x := fun u y hb => by
  have e : noE x = putBits (u64 x.1) 32 ++ putBits (u64 x.2) 32 := by simp [noE, numB]
  rw [e] at hb ⊢
  obtain ⟨a1, a2⟩ := read_put (b := b) u (putBits (u64 x.2) 32 ++ y) (u64 x.1) 32 (by rw [hb]; simp [List.append_assoc])
  obtain ⟨b1, b2⟩ := read_put (b := b) (u ++ putBits (u64 x.1) 32) y (u64 x.2) 32 (by rw [hb]; simp [List.append_assoc])
  unfold cxV cxN
  rw [a2, a1, b1, b2, sx_u64 _ h.1.1 h.1.2, sx_u64 _ h.2.1 h.2.2]
  exact ⟨rfl, by rw [List.append_assoc]⟩
theorem fo_se (b : List Bool) (x : Int × Int × Int) (h : (0 ≤ x.1 ∧ x.1 < 65536) ∧ (0 ≤ x.2.1 ∧ x.2.1 < 256) ∧ 0 ≤ x.2.2 ∧ x.2.2 < 256) : Fo b (seN (pack b)) (seV (pack b)) (seE x) (x.1.toNat, x.2.1.toNat, x.2.2.toNat) := fun u y hb => by
  have e : seE x = putBits (u64 x.1) 16 ++ putBits (u64 x.2.1) 8 ++ putBits (u64 x.2.2) 8 := by simp [seE, numB]
  rw [e] at hb ⊢
  obtain ⟨a1, a2⟩ := read_put (b := b) u (putBits (u64 x.2.1) 8 ++ putBits (u64 x.2.2) 8 ++ y) (u64 x.1) 16 (by rw [hb]; simp [List.append_assoc])
  obtain ⟨b1, b2⟩ := read_put (b := b) (u ++ putBits (u64 x.1) 16) (putBits (u64 x.2.2) 8 ++ y) (u64 x.2.1) 8 (by rw [hb]; simp [List.append_assoc])
  obtain ⟨c1, c2⟩ := read_put (b := b) (u ++ putBits (u64 x.1) 16 ++ putBits (u64 x.2.1) 8) y (u64 x.2.2) 8 (by rw [hb]; simp [List.append_assoc])
  unfold seV seN
  rw [a2, a1, b1, b2, c1, c2, u64_mod _ 16 h.1.1 h.1.2 (by omega), u64_mod _ 8 h.2.1.1 h.2.1.2 (by omega), u64_mod _ 8 h.2.2.1 h.2.2.2 (by omega)]
  exact ⟨rfl, by simp [List.append_assoc]⟩
theorem fo_po (b : List Bool) (x : Int × Int × Int × Int) (h : (0 ≤ x.1 ∧ x.1 < 256) ∧ (0 ≤ x.2.1 ∧ x.2.1 < 256) ∧ (0 ≤ x.2.2.1 ∧ x.2.2.1 < 256) ∧ 0 ≤ x.2.2.2 ∧ x.2.2.2 < 256) : Fo b (poN (pack b)) (poV (pack b)) (poE x) (x.1.toNat, x.2.1.toNat, x.2.2.1.toNat, x.2.2.2.toNat) := fun u y hb => by
  have e : poE x = putBits (u64 x.1) 8 ++ putBits (u64 x.2.1) 8 ++ putBits (u64 x.2.2.1) 8 ++ putBits (u64 x.2.2.2) 8 := by simp [poE, numB]
  rw [e] at hb ⊢
  obtain ⟨a1, a2⟩ := read_put (b := b) u (putBits (u64 x.2.1) 8 ++ putBits (u64 x.2.2.1) 8 ++ putBits (u64 x.2.2.2) 8 ++ y) (u64 x.1) 8 (by rw [hb]; simp [List.append_assoc])
  obtain ⟨b1, b2⟩ := read_put (b := b) (u ++ putBits (u64 x.1) 8) (putBits (u64 x.2.2.1) 8 ++ putBits (u64 x.2.2.2) 8 ++ y) (u64 x.2.1) 8 (by rw [hb]; simp [List.append_assoc])
  obtain ⟨c1, c2⟩ := read_put (b := b) (u ++ putBits (u64 x.1) 8 ++ putBits (u64 x.2.1) 8) (putBits (u64 x.2.2.2) 8 ++ y) (u64 x.2.2.1) 8 (by rw [hb]; simp [List.append_assoc])
  obtain ⟨d1, d2⟩ := read_put (b := b) (u ++ putBits (u64 x.1) 8 ++ putBits (u64 x.2.1) 8 ++ putBits (u64 x.2.2.1) 8) y (u64 x.2.2.2) 8 (by rw [hb]; simp [List.append_assoc])
  unfold poV poN
  rw [a2, a1, b1, b2, c1, c2, d1, d2, u64_mod _ 8 h.1.1 h.1.2 (by omega), u64_mod _ 8 h.2.1.1 h.2.1.2 (by omega), u64_mod _ 8 h.2.2.1.1 h.2.2.1.2 (by omega), u64_mod _ 8 h.2.2.2.1 h.2.2.2.2 (by omega)]
  exact ⟨rfl, by simp [List.append_assoc]⟩
theorem fo_in (b : List Bool) (v : Int) (h : 0 ≤ v ∧ v < 256) : Fo b (tnN (pack b)) (tnV (pack b)) (inE v) v.toNat := fun u y hb => by
  have e : inE v = putBits (u64 v) 8 := by simp [inE, numB]
  rw [e] at hb ⊢
  obtain ⟨a1, a2⟩ := read_put (b := b) u y (u64 v) 8 hb
  unfold tnV tnN
  rw [a1, a2, u64_mod _ 8 h.1 h.2 (by omega)]
  exact ⟨rfl, rfl⟩
theorem fo_row (b : List Bool) (x : List Int) (h : x.length < 256 ∧ ∀ v ∈ x, 0 ≤ v ∧ v < 256) : Fo b (inN (pack b)) (inV (pack b)) (roE x) (x.map Int.toNat) :=
  fo_list inE Int.toNat x h.1 fun v hv => fo_in b v (h.2 v hv)

/-- A layout's bits behind the letters. -/
def restBits (L : Lay) : List Bool := layB noE L.no ++ layB seE L.se ++ layB roE L.pa ++ layB poE L.po ++ layB roE L.ro ++ numB 16 [L.sp, L.mu, L.wa, L.ca, L.st]
theorem layBits_rest (L : Lay) : layBits L = (putBits 66 8 ++ putBits 76 8) ++ restBits L := by simp [layBits, restBits, List.append_assoc]
theorem pack_letters (L : Lay) : (pack (layBits L)).drop 2 = pack (restBits L) := by
  rw [layBits_rest]
  exact pack_drop _ _ 2 (by simp [putBits_length])
theorem pack_take2 (L : Lay) : (pack (layBits L)).take 2 = [66, 76] := by
  have hl : 2 ≤ (pack (layBits L)).length := by rw [pack_length, layBits_rest]; simp [putBits_length]; omega
  have key : ∀ i c, i < 2 → (∀ j, j < 8 → (c : UInt8).toNat.testBit j = (putBits 66 8 ++ putBits 76 8).getD (8 * i + (7 - j)) false) → (pack (layBits L)).getD i 0 = c := by
    intro i c hi hc
    rw [pack_getD]
    apply byte_ext
    intro j hj
    rw [byteOf_testBit, layBits_rest, bitAt_append_left (by simp [putBits_length]; omega), hc j hj]
    simp [hj, bitAt]
  have h0 := key 0 66 (by omega) (by decide)
  have h1 := key 1 76 (by omega) (by decide)
  obtain ⟨p, hp⟩ : ∃ p, pack (layBits L) = p := ⟨_, rfl⟩
  rw [hp] at hl h0 h1 ⊢
  match p, hl with
  | x :: y :: r, _ =>
    simp at h0 h1
    subst h0 h1
    rfl
theorem q_back (L : Lay) (h : GoodL L) : layOf (pack (restBits L)) = L ∧ qE (pack (restBits L)) = ((restBits L).length, false) := by
  obtain ⟨hno, hse, hpa, hpo, hro, hnu⟩ := h
  obtain ⟨b, hb⟩ : ∃ b, restBits L = b := ⟨_, rfl⟩
  rw [hb]
  have hb' := hb.symm
  unfold restBits at hb'
  have hn5 : numB 16 [L.sp, L.mu, L.wa, L.ca, L.st] = putBits (u64 L.sp) 16 ++ putBits (u64 L.mu) 16 ++ putBits (u64 L.wa) 16 ++ putBits (u64 L.ca) 16 ++ putBits (u64 L.st) 16 := by simp [numB]
  rw [hn5] at hb'
  obtain ⟨v1, s1⟩ := fo_list (b := b) (f := cxN (pack b)) (g := cxV (pack b)) noE id L.no hno.1 (fun x hx => fo_no b x (hno.2 x hx)) [] _ (by rw [hb']; simp only [List.append_assoc, List.nil_append]; rfl)
  obtain ⟨v2, s2⟩ := fo_list (b := b) (f := seN (pack b)) (g := seV (pack b)) seE (fun x => (x.1.toNat, x.2.1.toNat, x.2.2.toNat)) L.se hse.1 (fun x hx => fo_se b x (hse.2 x hx)) ([] ++ layB noE L.no) _ (by rw [hb']; simp only [List.append_assoc, List.nil_append]; rfl)
  obtain ⟨v3, s3⟩ := fo_list (b := b) (f := inN (pack b)) (g := inV (pack b)) roE (fun x => x.map Int.toNat) L.pa hpa.1 (fun x hx => fo_row b x (hpa.2 x hx)) ([] ++ layB noE L.no ++ layB seE L.se) _ (by rw [hb']; simp only [List.append_assoc, List.nil_append]; rfl)
  obtain ⟨v4, s4⟩ := fo_list (b := b) (f := poN (pack b)) (g := poV (pack b)) poE (fun x => (x.1.toNat, x.2.1.toNat, x.2.2.1.toNat, x.2.2.2.toNat)) L.po hpo.1 (fun x hx => fo_po b x (hpo.2 x hx)) ([] ++ layB noE L.no ++ layB seE L.se ++ layB roE L.pa) _ (by rw [hb']; simp only [List.append_assoc, List.nil_append]; rfl)
  obtain ⟨v5, s5⟩ := fo_list (b := b) (f := inN (pack b)) (g := inV (pack b)) roE (fun x => x.map Int.toNat) L.ro hro.1 (fun x hx => fo_row b x (hro.2 x hx)) ([] ++ layB noE L.no ++ layB seE L.se ++ layB roE L.pa ++ layB poE L.po) _ (by rw [hb']; simp only [List.append_assoc, List.nil_append]; rfl)
  obtain ⟨X, hX⟩ : ∃ X, [] ++ layB noE L.no ++ layB seE L.se ++ layB roE L.pa ++ layB poE L.po ++ layB roE L.ro = X := ⟨_, rfl⟩
  rw [hX] at s5
  have hbX : b = X ++ (putBits (u64 L.sp) 16 ++ putBits (u64 L.mu) 16 ++ putBits (u64 L.wa) 16 ++ putBits (u64 L.ca) 16 ++ putBits (u64 L.st) 16) := by rw [hb', ← hX]; simp only [List.append_assoc, List.nil_append]
  obtain ⟨n6, s6⟩ := read_put (b := b) X (putBits (u64 L.mu) 16 ++ putBits (u64 L.wa) 16 ++ putBits (u64 L.ca) 16 ++ putBits (u64 L.st) 16) (u64 L.sp) 16 (by rw [hbX]; simp only [List.append_assoc])
  obtain ⟨n7, s7⟩ := read_put (b := b) (X ++ putBits (u64 L.sp) 16) (putBits (u64 L.wa) 16 ++ putBits (u64 L.ca) 16 ++ putBits (u64 L.st) 16) (u64 L.mu) 16 (by rw [hbX]; simp only [List.append_assoc])
  obtain ⟨n8, s8⟩ := read_put (b := b) (X ++ putBits (u64 L.sp) 16 ++ putBits (u64 L.mu) 16) (putBits (u64 L.ca) 16 ++ putBits (u64 L.st) 16) (u64 L.wa) 16 (by rw [hbX]; simp only [List.append_assoc])
  obtain ⟨n9, s9⟩ := read_put (b := b) (X ++ putBits (u64 L.sp) 16 ++ putBits (u64 L.mu) 16 ++ putBits (u64 L.wa) 16) (putBits (u64 L.st) 16) (u64 L.ca) 16 (by rw [hbX]; simp only [List.append_assoc])
  obtain ⟨nE, sE⟩ := read_put (b := b) (X ++ putBits (u64 L.sp) 16 ++ putBits (u64 L.mu) 16 ++ putBits (u64 L.wa) 16 ++ putBits (u64 L.ca) 16) [] (u64 L.st) 16 (by rw [hbX]; simp only [List.append_assoc, List.append_nil])
  have p1 : q1 (pack b) = (([] ++ layB noE L.no).length, false) := s1
  have p2 : q2 (pack b) = (([] ++ layB noE L.no ++ layB seE L.se).length, false) := by unfold q2; rw [p1]; exact s2
  have p3 : q3 (pack b) = (([] ++ layB noE L.no ++ layB seE L.se ++ layB roE L.pa).length, false) := by unfold q3; rw [p2]; exact s3
  have p4 : q4 (pack b) = (([] ++ layB noE L.no ++ layB seE L.se ++ layB roE L.pa ++ layB poE L.po).length, false) := by unfold q4; rw [p3]; exact s4
  have p5 : q5 (pack b) = (X.length, false) := by unfold q5; rw [p4]; exact s5
  have p6 : q6 (pack b) = ((X ++ putBits (u64 L.sp) 16).length, false) := by unfold q6; rw [p5]; exact s6
  have p7 : q7 (pack b) = ((X ++ putBits (u64 L.sp) 16 ++ putBits (u64 L.mu) 16).length, false) := by unfold q7; rw [p6]; exact s7
  have p8 : q8 (pack b) = ((X ++ putBits (u64 L.sp) 16 ++ putBits (u64 L.mu) 16 ++ putBits (u64 L.wa) 16).length, false) := by unfold q8; rw [p7]; exact s8
  have p9 : q9 (pack b) = ((X ++ putBits (u64 L.sp) 16 ++ putBits (u64 L.mu) 16 ++ putBits (u64 L.wa) 16 ++ putBits (u64 L.ca) 16).length, false) := by unfold q9; rw [p8]; exact s9
  have pE : qE (pack b) = (b.length, false) := by unfold qE; rw [p9, sE, hbX]; simp only [List.append_assoc]
  refine ⟨?_, pE⟩
  have back : ∀ v : Int, 0 ≤ v → ((v.toNat : Nat) : Int) = v := fun v h => by omega
  have m2 : (L.se.map fun x => (x.1.toNat, x.2.1.toNat, x.2.2.toNat)).map seI = L.se := by
    rw [List.map_map]
    conv => rhs; rw [← List.map_id L.se]
    apply List.map_congr_left
    intro x hx
    obtain ⟨h1, h2, h3⟩ := hse.2 x hx
    simp only [Function.comp, seI, id]
    rw [back _ h1.1, back _ h2.1, back _ h3.1]
  have m4 : (L.po.map fun x => (x.1.toNat, x.2.1.toNat, x.2.2.1.toNat, x.2.2.2.toNat)).map poI = L.po := by
    rw [List.map_map]
    conv => rhs; rw [← List.map_id L.po]
    apply List.map_congr_left
    intro x hx
    obtain ⟨h1, h2, h3, h4⟩ := hpo.2 x hx
    simp only [Function.comp, poI, id]
    rw [back _ h1.1, back _ h2.1, back _ h3.1, back _ h4.1]
  have mr : ∀ P : List (List Int), (∀ x ∈ P, x.length < 256 ∧ ∀ v ∈ x, 0 ≤ v ∧ v < 256) → (P.map fun x => x.map Int.toNat).map nats = P := by
    intro P hP
    rw [List.map_map]
    conv => rhs; rw [← List.map_id P]
    apply List.map_congr_left
    intro x hx
    simp only [Function.comp, nats, id, List.map_map]
    conv => rhs; rw [← List.map_id x]
    apply List.map_congr_left
    intro v hv
    exact back v ((hP x hx).2 v hv).1
  unfold layOf
  have w1 : liL (cxV (pack b)) (cxN (pack b)) (pack b) (0, false) = L.no := by rw [show ((0 : Nat), false) = (([] : List Bool).length, false) from rfl, v1]; simp
  rw [p1, p2, p3, p4, p5, p6, p7, p8, p9, w1, v2, v3, v4, v5, n6, n7, n8, n9, nE, m2, m4, mr _ hpa.2, mr _ hro.2, u64_mod _ 16 hnu.1.1 hnu.1.2 (by omega), u64_mod _ 16 hnu.2.1.1 hnu.2.1.2 (by omega), u64_mod _ 16 hnu.2.2.1.1 hnu.2.2.1.2 (by omega), u64_mod _ 16 hnu.2.2.2.1.1 hnu.2.2.2.1.2 (by omega), u64_mod _ 16 hnu.2.2.2.2.1 hnu.2.2.2.2.2 (by omega), back _ hnu.1.1, back _ hnu.2.1.1, back _ hnu.2.2.1.1, back _ hnu.2.2.2.1.1, back _ hnu.2.2.2.2.1]
end Go.Proofs.Ytfnlimcgoeknjaa


namespace Go.Proofs.Ytfnlimcgoeknjaa
open Go.RowKit Go Fl

/-! ### A beginning -/
/-- F on the first n bits, G on the whole: where F does not fail it is where G is. -/
structure Pr (n : Nat) (F G : Pl → Pl) : Prop where
  le : ∀ s : Pl, s.1 ≤ n → (F s).1 ≤ n
  eq : ∀ s : Pl, s.1 ≤ n → (F s).2 = false → G s = F s ∧ s.2 = false
theorem Pr.comp {n : Nat} {F G F' G' : Pl → Pl} (h : Pr n F G) (h' : Pr n F' G') : Pr n (fun s => F' (F s)) (fun s => G' (G s)) :=
  ⟨fun s hs => h'.le _ (h.le s hs), fun s hs hf => by
    obtain ⟨e1, o1⟩ := h'.eq (F s) (h.le s hs) hf
    obtain ⟨e2, o2⟩ := h.eq s hs o1
    exact ⟨by rw [e2, e1], o2⟩⟩
theorem over_pre {q : List UInt8} {k : Nat} {s : Pl} {m : Nat} (h : over (q.take k) s.1 s.2 m = false) (h2 : s.2 = false) (hs : s.1 ≤ 8 * (q.take k).length) : over q s.1 s.2 m = false ∧ s.1 + m ≤ 8 * (q.take k).length := by
  rw [h2] at h ⊢
  unfold over left at h ⊢
  have hl : (q.take k).length ≤ q.length := by rw [List.length_take]; omega
  simp at h ⊢
  rw [List.length_take] at *
  omega
theorem nx_pre (q : List UInt8) (k m : Nat) : Pr (8 * (q.take k).length) (fun s => nx (q.take k) s m) (fun s => nx q s m) := by
  refine ⟨fun s hs => ?_, fun s hs hf => ?_⟩
  · unfold nx nextAt
    simp only
    split
    · exact hs
    · rename_i ho
      have ho' : over (q.take k) s.1 s.2 m = false := by simpa using ho
      by_cases hf : s.2 = true
      · rw [hf] at ho'
        unfold over left at ho'
        simp at ho'
        omega
      · exact (over_pre ho' (by simpa using hf) hs).2
  · have hf' : (s.2 || over (q.take k) s.1 s.2 m) = false := hf
    simp only [Bool.or_eq_false_iff] at hf'
    obtain ⟨h1, h2⟩ := over_pre hf'.2 hf'.1 hs
    refine ⟨?_, hf'.1⟩
    show nx q s m = nx (q.take k) s m
    unfold nx nextAt
    simp only [h1, hf'.2]
theorem gt_pre {q : List UInt8} {k m : Nat} {s : Pl} (hs : s.1 ≤ 8 * (q.take k).length) (hf : (nx (q.take k) s m).2 = false) : gt q s m = gt (q.take k) s m := by
  have hf' : (s.2 || over (q.take k) s.1 s.2 m) = false := hf
  simp only [Bool.or_eq_false_iff] at hf'
  obtain ⟨h1, h2⟩ := over_pre hf'.2 hf'.1 hs
  unfold gt got
  rw [if_neg (by rw [h1]; decide), if_neg (by rw [hf'.2]; decide)]
  apply num_congr
  intro j hj
  rw [bitAt_ofBytes, bitAt_ofBytes]
  have hlt : (s.1 + j) / 8 < (q.take k).length := by omega
  have hlt2 : (s.1 + j) / 8 < q.length := by rw [List.length_take] at hlt; omega
  rw [List.getD_eq_getElem?_getD, List.getD_eq_getElem?_getD, List.getElem?_eq_getElem hlt, List.getElem?_eq_getElem hlt2, List.getElem_take]
theorem it_pre {n : Nat} {F G : Pl → Pl} (h : Pr n F G) : ∀ i, Pr n (fun s => itS F s i) (fun s => itS G s i)
  | 0 => ⟨fun _ hs => hs, fun _ _ hf => ⟨rfl, hf⟩⟩
  | i + 1 => (it_pre h i).comp h
theorem li_pre {q : List UInt8} {k : Nat} {f : List UInt8 → Pl → Pl} (h : Pr (8 * (q.take k).length) (f (q.take k)) (f q)) : Pr (8 * (q.take k).length) (liS (f (q.take k)) (q.take k)) (liS (f q) q) := by
  refine ⟨fun s hs => (it_pre h _).le _ ((nx_pre q k 8).le s hs), fun s hs hf => ?_⟩
  have hs' := (nx_pre q k 8).le s hs
  obtain ⟨e1, o1⟩ := (it_pre h (gt (q.take k) s 8)).eq (nx (q.take k) s 8) hs' hf
  obtain ⟨e2, o2⟩ := (nx_pre q k 8).eq s hs o1
  refine ⟨?_, o2⟩
  show itS (f q) (nx q s 8) (gt q s 8) = itS (f (q.take k)) (nx (q.take k) s 8) (gt (q.take k) s 8)
  have e2' : nx q s 8 = nx (q.take k) s 8 := e2
  have e1' : itS (f q) (nx (q.take k) s 8) (gt (q.take k) s 8) = itS (f (q.take k)) (nx (q.take k) s 8) (gt (q.take k) s 8) := e1
  rw [gt_pre hs o1, e2', e1']
theorem qE_pre (q : List UInt8) (k : Nat) (hf : (qE (q.take k)).2 = false) : qE q = qE (q.take k) ∧ (qE (q.take k)).1 ≤ 8 * (q.take k).length := by
  have n8 := nx_pre q k 8
  have n16 := nx_pre q k 16
  have n32 := nx_pre q k 32
  have p1 := li_pre (q := q) (k := k) (f := cxN) (n32.comp n32)
  have p2 := li_pre (q := q) (k := k) (f := seN) ((n16.comp n8).comp n8)
  have pi := li_pre (q := q) (k := k) (f := tnN) n8
  have p3 := li_pre (q := q) (k := k) (f := inN) pi
  have p4 := li_pre (q := q) (k := k) (f := poN) (((n8.comp n8).comp n8).comp n8)
  have all := (((((((((p1.comp p2).comp p3).comp p4).comp p3).comp n16).comp n16).comp n16).comp n16).comp n16)
  exact ⟨(all.eq (0, false) (Nat.zero_le _) hf).1, all.le (0, false) (Nat.zero_le _)⟩

theorem eight_flat {α : Type} (E : α → List Bool) (h : ∀ x, (E x).length % 8 = 0) (l : List α) : (l.flatMap E).length % 8 = 0 := by
  induction l with
  | nil => rfl
  | cons x l ih => rw [List.flatMap_cons, List.length_append]; have := h x; omega
theorem eight_lay {α : Type} (E : α → List Bool) (h : ∀ x, (E x).length % 8 = 0) (l : List α) : (layB E l).length % 8 = 0 := by
  unfold layB
  rw [List.length_append, putBits_length]
  have := eight_flat E h l
  omega
theorem eight_rest (L : Lay) : (restBits L).length % 8 = 0 := by
  unfold restBits
  have h1 := eight_lay noE (fun x => by unfold noE; rw [numB_length]; simp) L.no
  have h2 := eight_lay seE (fun x => by unfold seE; rw [List.length_append, numB_length, numB_length]; simp) L.se
  have h3 := eight_lay roE (fun x => by unfold roE; exact eight_lay inE (fun v => by unfold inE; rw [numB_length]; simp) x) L.pa
  have h4 := eight_lay poE (fun x => by unfold poE; rw [numB_length]; simp) L.po
  have h5 := eight_lay roE (fun x => by unfold roE; exact eight_lay inE (fun v => by unfold inE; rw [numB_length]; simp) x) L.ro
  have h6 : (numB 16 [L.sp, L.mu, L.wa, L.ca, L.st]).length % 8 = 0 := by rw [numB_length]; simp
  simp only [List.length_append]
  omega
theorem dec_back (L : Lay) (h : GoodL L) : decL (pack (restBits L)) = (L, 0) := by
  obtain ⟨h1, h2⟩ := q_back L h
  have h8 := eight_rest L
  unfold decL
  rw [h2, h1, if_neg (by simp), if_neg]
  unfold left
  rw [pack_length]
  simp
  omega
theorem dec_cut (L : Lay) (h : GoodL L) (k : Nat) (hk : k < (pack (restBits L)).length) : decL ((pack (restBits L)).take k) = (lnone, 4) := by
  obtain ⟨_, h2⟩ := q_back L h
  have h8 := eight_rest L
  unfold decL
  rw [if_pos]
  cases hf : (qE ((pack (restBits L)).take k)).2 with
  | true => rfl
  | false =>
    obtain ⟨e, hle⟩ := qE_pre _ _ hf
    rw [← e, h2, List.length_take] at hle
    rw [pack_length] at hk hle
    simp at hle
    omega
end Go.Proofs.Ytfnlimcgoeknjaa
