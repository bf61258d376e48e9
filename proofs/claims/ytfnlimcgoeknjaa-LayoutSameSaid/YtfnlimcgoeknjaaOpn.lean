import Derived.Test.YtfnlimcgoeknjaaMem
import Derived.Test.YtfnlimcgoeknjaaFin
import Derived.Deep.Slices
import Derived.Carry
import Derived.SizedLaws
namespace Go.Proofs.Ytfnlimcgoeknjaa
open Go.RowKit Go.ChangeShapes Go.WideShapes Go.Deep

section
variable {H : Type} {enc : TypeId × Value → H} {P : Program} {w : World}

/-- A slice of whole numbers that came in. -/
theorem open_nums {t e : TypeId} {k : IntKind} {A : Option Addr} {len cap : Nat} {d : DataW H} {ps : List MemPlace} (ht : P.underlying t = some (.slice e)) (he : P.underlying e = some (.int k)) (hc : P.cellsOf e = 1)
    (h : DataW.Trod enc P w 0 (fun _ => true) true t (.slice A len cap) d ps) :
    ∃ l : List Int, l.length = len ∧ len ≤ cap ∧ cap ≤ maxLen ∧ (∀ n ∈ l, (Lit.int k n).wf = true) ∧ Rd w A (ints k l) ∧ (A = none → cap = 0) := by
  obtain ⟨fuel, hf⟩ := h
  rcases open_ints ht he hc hf with ⟨hcs, _⟩ | ⟨x, l, c, zs, hcs, _, hl, hm, hz, _, hcell, hwz⟩
  · simp [Value.cells] at hcs
    obtain ⟨rfl, rfl, rfl⟩ := hcs
    exact ⟨[], rfl, Nat.le_refl _, Nat.zero_le _, by simp, Rd.nil _ _, fun _ => rfl⟩
  · simp [Value.cells] at hcs
    obtain ⟨rfl, rfl, rfl⟩ := hcs
    simp only [if_true] at hz
    have hlz : len ≤ zs.length := by omega
    refine ⟨zs.take len, by simp; omega, hl, hm, fun n hn => hwz n (List.mem_of_mem_take hn), ⟨by simp only [ints_length, List.length_take, maxLen] at *; omega, fun j hj => ⟨x, rfl, ?_⟩⟩, fun h => by cases h⟩
    have hj2 : j < len := by simp only [ints_length, List.length_take] at hj; omega
    rw [ints_getD _ _ (by simp only [List.length_take]; omega), hcell j (by omega)]
    simp [List.getD_eq_getElem?_getD, hj2]

def toBytes (l : List Int) : List UInt8 := l.map fun n => UInt8.ofNat n.toNat
theorem bys_toBytes {l : List Int} (h : ∀ n ∈ l, (Lit.int .u8 n).wf = true) : bys (toBytes l) = ints .u8 l := by
  unfold bys toBytes ints
  rw [List.map_map]
  apply List.map_congr_left
  intro n hn
  have := wf_u8 (h n hn)
  simp only [Function.comp]
  congr 1
  have h2 : (UInt8.ofNat n.toNat).toNat = n.toNat := UInt8.toNat_ofNat_of_lt' (by show n.toNat < 256; omega)
  rw [h2]
  omega

/-- Bytes that came in. -/
theorem open_bytes {t e : TypeId} {A : Option Addr} {len cap : Nat} {d : DataW H} {ps : List MemPlace} (ht : P.underlying t = some (.slice e)) (he : P.underlying e = some (.int .u8)) (hc : P.cellsOf e = 1)
    (h : DataW.Trod enc P w 0 (fun _ => true) true t (.slice A len cap) d ps) :
    ∃ l : List UInt8, l.length = len ∧ len ≤ cap ∧ cap ≤ maxLen ∧ Rd w A (bys l) ∧ (A = none → cap = 0) := by
  obtain ⟨l, h1, h2, h3, h4, h5, h6⟩ := open_nums ht he hc h
  exact ⟨toBytes l, by simpa [toBytes] using h1, h2, h3, by rwa [bys_toBytes h4], h6⟩

/-- A slice of one-cell elements that came in. -/
theorem open_ones {t e : TypeId} {A : Option Addr} {len cap : Nat} {d : DataW H} {ps : List MemPlace} (ht : P.underlying t = some (.slice e)) (hc : P.cellsOf e = 1)
    (h : DataW.Trod enc P w 0 (fun _ => true) true t (.slice A len cap) d ps) :
    len ≤ cap ∧ cap ≤ maxLen ∧ ∃ V : List Value, V.length = len ∧ Rd w A V ∧ ∀ v ∈ V, ∃ n d', DataW.trod enc P w 0 (fun _ => true) true n e [v] = some d' := by
  obtain ⟨fuel, hf⟩ := h
  rcases open_slice1 ht hc hf with ⟨hcs, _⟩ | ⟨x, l, c, m, n, V, D, Pl, hcs, _, hl, hm, hmm, _, hx⟩
  · simp [Value.cells] at hcs
    obtain ⟨rfl, rfl, rfl⟩ := hcs
    exact ⟨Nat.le_refl _, Nat.zero_le _, [], rfl, Rd.nil _ _, by simp⟩
  · simp [Value.cells] at hcs
    obtain ⟨rfl, rfl, rfl⟩ := hcs
    simp only [if_true] at hmm
    refine ⟨hl, hm, (List.range len).map V, by simp, ⟨by simp only [List.length_map, List.length_range, maxLen] at *; omega, fun j hj => ⟨x, rfl, ?_⟩⟩, ?_⟩
    · have hj2 : j < len := by simpa using hj
      rw [(hx j (by omega)).1]
      simp [List.getD_eq_getElem?_getD, hj2]
    · intro v hv
      obtain ⟨j, hj, rfl⟩ := List.mem_map.1 hv
      have hj2 : j < len := by simpa using hj
      exact ⟨n, _, (hx j (by omega)).2⟩

/-- Bytes, off a reading of one cell. -/
theorem bytes_of_trod {t e : TypeId} {n : Nat} {v : Value} {d : DataW H × List MemPlace} (ht : P.underlying t = some (.slice e)) (he : P.underlying e = some (.int .u8)) (hc : P.cellsOf e = 1)
    (h : DataW.trod enc P w 0 (fun _ => true) true n t [v] = some d) : ∃ (A : Option Addr) (c : Nat) (l : List UInt8), v = .slice A l.length c ∧ l.length ≤ c ∧ (A = none → c = 0) ∧ Rd w A (bys l) := by
  rcases open_ints ht he hc h with ⟨hcs, _⟩ | ⟨x, len, c, zs, hcs, _, hl, hm, hz, _, hcell, hwz⟩
  · simp at hcs
    subst hcs
    exact ⟨none, 0, [], rfl, Nat.le_refl _, fun _ => rfl, Rd.nil _ _⟩
  · simp at hcs
    subst hcs
    simp only [if_true] at hz
    have hT : DataW.Trod enc P w 0 (fun _ => true) true t (.slice (some x) len c) d.1 d.2 := ⟨n, h⟩
    obtain ⟨l, h1, h2, _, h4, h5⟩ := open_bytes ht he hc hT
    subst h1
    exact ⟨_, c, l, rfl, h2, h5, h4⟩
end

/-- A slice of byte slices: each one's address, capacity and bytes. -/
abbrev BS := List (Option Addr × Nat × List UInt8)
def bss (l : BS) : List Value := l.map fun x => .slice x.1 x.2.2.length x.2.1
theorem bss_length (l : BS) : (bss l).length = l.length := by simp [bss]
theorem bss_of (w : World) (Q : Value → Prop) (hQ : ∀ v, Q v → ∃ (A : Option Addr) (c : Nat) (l : List UInt8), v = .slice A l.length c ∧ l.length ≤ c ∧ (A = none → c = 0) ∧ Rd w A (bys l)) :
    ∀ V : List Value, (∀ v ∈ V, Q v) → ∃ l : BS, V = bss l ∧ ∀ x ∈ l, x.2.2.length ≤ x.2.1 ∧ (x.1 = none → x.2.1 = 0) ∧ Rd w x.1 (bys x.2.2)
  | [], _ => ⟨[], rfl, by simp⟩
  | v :: V, h => by
    obtain ⟨l, rfl, hl⟩ := bss_of w Q hQ V (fun u hu => h u (List.mem_cons_of_mem _ hu))
    obtain ⟨A, c, b, rfl, h1, h2⟩ := hQ v (h v (List.mem_cons_self ..))
    exact ⟨(A, c, b) :: l, rfl, by
      intro x hx
      rcases List.mem_cons.1 hx with rfl | hx
      · exact ⟨h1, h2⟩
      · exact hl x hx⟩

/-- A slice of byte slices that came in. -/
theorem open_bss {H : Type} {enc : TypeId × Value → H} {P : Program} {w : World} {t s e : TypeId} {A : Option Addr} {len cap : Nat} {d : DataW H} {ps : List MemPlace} (ht : P.underlying t = some (.slice s)) (hcs : P.cellsOf s = 1) (hs : P.underlying s = some (.slice e)) (he : P.underlying e = some (.int .u8)) (hc : P.cellsOf e = 1)
    (h : DataW.Trod enc P w 0 (fun _ => true) true t (.slice A len cap) d ps) :
    ∃ l : BS, l.length = len ∧ len ≤ cap ∧ cap ≤ maxLen ∧ Rd w A (bss l) ∧ ∀ x ∈ l, x.2.2.length ≤ x.2.1 ∧ (x.1 = none → x.2.1 = 0) ∧ Rd w x.1 (bys x.2.2) := by
  obtain ⟨h1, h2, V, h3, h4, h5⟩ := open_ones ht hcs h
  obtain ⟨l, rfl, hl⟩ := bss_of w (fun v => ∃ n d', DataW.trod enc P w 0 (fun _ => true) true n s [v] = some d') (fun v ⟨n, d', hd⟩ => bytes_of_trod hs he hc hd) V h5
  exact ⟨l, by rw [bss_length] at h3; exact h3, h1, h2, h4, hl⟩
theorem weightsAll_mem {H : Type} {P : Program} {e : TypeId} : ∀ {ds : List (DataW H)} {d : DataW H}, d ∈ ds → ∀ n ∈ d.weights P e, n ∈ DataW.weightsAll P e ds
  | d0 :: ds, d, hd, n, hn => by
    simp only [DataW.weightsAll, List.mem_append]
    rcases List.mem_cons.1 hd with rfl | hd
    · exact .inl hn
    · exact .inr (weightsAll_mem hd n hn)

/-- Bytes, off a reading of one cell; no more than the form's reach. -/
theorem bytes_of_trod_sized {H : Type} {enc : TypeId × Value → H} {P : Program} {w : World} {t e : TypeId} {n : Nat} {v : Value} {d : DataW H × List MemPlace} (ht : P.underlying t = some (.slice e)) (he : P.underlying e = some (.int .u8)) (hc : P.cellsOf e = 1) (hB : P.bytesOf e = 1)
    (h : DataW.trod enc P w 0 (fun _ => true) true n t [v] = some d) (hw : ∀ m ∈ d.1.weights P t, m ≤ 140737488351232) :
    ∃ (A : Option Addr) (c : Nat) (l : List UInt8), v = .slice A l.length c ∧ l.length ≤ c ∧ (A = none → c = 0) ∧ Rd w A (bys l) ∧ l.length ≤ 140737488351232 := by
  obtain ⟨A, c, l, rfl, h1, h2⟩ := bytes_of_trod ht he hc h
  refine ⟨A, c, l, rfl, h1, h2.1, h2.2, ?_⟩
  rcases open_ints ht he hc h with ⟨hcs, _⟩ | ⟨x, len, cap, zs, hcs, _, hl, hm, hz, hx, _, _⟩
  · simp at hcs
    simp [hcs.2.1]
  · simp at hcs
    obtain ⟨_, rfl, _⟩ := hcs
    simp only [if_true] at hz
    subst hx
    have := hw (((lits (H := H) .u8 (zs.take l.length)).length + (lits (H := H) .u8 (zs.drop l.length)).length) * P.bytesOf e) (by simp [DataW.weights, ht])
    rw [hB] at this
    simp [lits] at this
    omega

theorem bss_of_sized (w : World) (Q : Value → Prop) (hQ : ∀ v, Q v → ∃ (A : Option Addr) (c : Nat) (l : List UInt8), v = .slice A l.length c ∧ l.length ≤ c ∧ (A = none → c = 0) ∧ Rd w A (bys l) ∧ l.length ≤ 140737488351232) :
    ∀ V : List Value, (∀ v ∈ V, Q v) → ∃ l : BS, V = bss l ∧ ∀ x ∈ l, x.2.2.length ≤ x.2.1 ∧ (x.1 = none → x.2.1 = 0) ∧ Rd w x.1 (bys x.2.2) ∧ x.2.2.length ≤ 140737488351232
  | [], _ => ⟨[], rfl, by simp⟩
  | v :: V, h => by
    obtain ⟨l, rfl, hl⟩ := bss_of_sized w Q hQ V (fun u hu => h u (List.mem_cons_of_mem _ hu))
    obtain ⟨A, c, b, rfl, h1, h2⟩ := hQ v (h v (List.mem_cons_self ..))
    exact ⟨(A, c, b) :: l, rfl, by
      intro x hx
      rcases List.mem_cons.1 hx with rfl | hx
      · exact ⟨h1, h2⟩
      · exact hl x hx⟩

/-- A slice of byte slices that came in, none beyond the form's reach. -/
theorem open_bss_sized {H : Type} {enc : TypeId × Value → H} {P : Program} {w : World} {t s e : TypeId} {A : Option Addr} {len cap : Nat} {d : DataW H} {ps : List MemPlace} (ht : P.underlying t = some (.slice s)) (hcs : P.cellsOf s = 1) (hs : P.underlying s = some (.slice e)) (he : P.underlying e = some (.int .u8)) (hc : P.cellsOf e = 1) (hB : P.bytesOf e = 1)
    (h : DataW.Trod enc P w 0 (fun _ => true) true t (.slice A len cap) d ps) (hw : ∀ m ∈ d.weights P t, m ≤ 140737488351232) :
    ∃ l : BS, l.length = len ∧ len ≤ cap ∧ cap ≤ maxLen ∧ Rd w A (bss l) ∧ ∀ x ∈ l, x.2.2.length ≤ x.2.1 ∧ (x.1 = none → x.2.1 = 0) ∧ Rd w x.1 (bys x.2.2) ∧ x.2.2.length ≤ 140737488351232 := by
  obtain ⟨fuel, hf⟩ := h
  rcases open_slice1 ht hcs hf with ⟨hcs', _⟩ | ⟨x, l, c, m, n, V, D, Pl, hcs', _, hl, hm, hmm, hx0, hx⟩
  · simp [Value.cells] at hcs'
    obtain ⟨rfl, rfl, rfl⟩ := hcs'
    exact ⟨[], rfl, Nat.le_refl _, Nat.zero_le _, Rd.nil _ _, by simp⟩
  · simp [Value.cells] at hcs'
    obtain ⟨rfl, rfl, rfl⟩ := hcs'
    simp only [if_true] at hmm
    simp only [Prod.mk.injEq] at hx0
    obtain ⟨rfl, _⟩ := hx0
    obtain ⟨lb, hlb, hall⟩ := bss_of_sized w (fun v => ∃ n d', DataW.trod enc P w 0 (fun _ => true) true n s [v] = some d' ∧ ∀ m ∈ d'.1.weights P s, m ≤ 140737488351232)
      (fun v ⟨n, d', hd, hwd⟩ => bytes_of_trod_sized hs he hc hB hd hwd) ((List.range len).map V) (fun v hv => by
        obtain ⟨j, hj, rfl⟩ := List.mem_map.1 hv
        have hj2 : j < len := by simpa using hj
        refine ⟨n, _, (hx j (by omega)).2, fun q hq => hw q ?_⟩
        simp only [DataW.weights, ht]
        exact List.mem_cons_of_mem _ (List.mem_append.2 (.inl (weightsAll_mem (List.mem_map.2 ⟨j, hj, rfl⟩) q hq))))
    refine ⟨lb, ?_, hl, hm, ?_, hall⟩
    · have := congrArg List.length hlb
      rw [bss_length] at this
      simpa using this.symm
    · rw [← hlb]
      refine ⟨by simp only [List.length_map, List.length_range, maxLen] at *; omega, fun j hj => ⟨x, rfl, ?_⟩⟩
      have hj2 : j < len := by simpa using hj
      rw [(hx j (by omega)).1]
      simp [List.getD_eq_getElem?_getD, hj2]

theorem Rd.bs {w : World} {A : Option Addr} {l : BS} (h : Rd w A (bss l)) {j : Nat} (hj : j < l.length) : ∃ ad, A = some ad ∧ w.cell? (ad.add j) = some (.slice l[j].1 l[j].2.2.length l[j].2.1) := by
  obtain ⟨ad, h1, h2⟩ := h.2 j (by rwa [bss_length])
  refine ⟨ad, h1, ?_⟩
  rw [h2]
  simp [bss, List.getD_eq_getElem?_getD, List.getElem?_eq_getElem hj]
end Go.Proofs.Ytfnlimcgoeknjaa
