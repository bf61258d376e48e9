import Derived.Test.YtfnlimcgoeknjaaHeldR
namespace Go.Proofs.Ytfnlimcgoeknjaa
open Go.RowKit Go

/-! ### A region in which several blocks are made, in whatever order; its last operation comes behind all the others -/
/-- An operation that gives a value, and makes a block, or none. -/
structure Sp where
  i : Nat
  d : Nat
  al : Bool
  cs : (Nat → Value) → Array Value
  t : TypeId
  val : Nat → (Nat → Value) → Value
def updV (f : Nat → Value) (d : Nat) (v : Value) : Nat → Value := fun k => if k = d then v else f k
def GoodS (f : Nat → Value) (w0 w : World) (sp : Sp) : Prop := ∃ g, f sp.d = sp.val g f ∧ (sp.al = true → w0.heap.size ≤ g ∧ w.heap[g]? = some (.cells (sp.cs f) sp.t (0, 0)))
def closedL (md : Region.Mode) (l : List Oper) (L : Array Bool) : Prop := ∀ j o, l[j]? = some o → L.getD j false = true → ∀ e ∈ o.after, Region.binds md e = true → L.getD e.on false = true
def closedLB (md : Region.Mode) (l : List Oper) (L : Array Bool) : Bool := (List.range l.length).all fun j => !L.getD j false || ((l[j]?).map fun o => o.after.all fun e => !Region.binds md e || L.getD e.on false).getD true
theorem closedL_of {md : Region.Mode} {l : List Oper} {L : Array Bool} (h : closedLB md l L = true) : closedL md l L := by
  intro j o ho hj e he hb
  have hjl : j < l.length := (List.getElem?_eq_some_iff.1 ho).1
  have h1 := List.all_eq_true.1 h j (List.mem_range.2 hjl)
  rw [hj, ho] at h1
  simp only [Bool.not_true, Bool.false_or, Option.map_some, Option.getD_some, Array.all_eq_true'] at h1
  have h2 := h1 e he
  rw [hb] at h2
  simpa using h2
def nots (L : Array Bool) : Nat := (L.toList.filter fun b => !b).length
theorem nots_list : ∀ (l : List Bool) (i : Nat), l[i]? = some false → (l.filter fun b => !b).length = ((l.set i true).filter fun b => !b).length + 1
  | [], _, h => by simp at h
  | b :: l, 0, h => by
    simp at h
    subst h
    simp
  | b :: l, i + 1, h => by
    have := nots_list l i (by simpa using h)
    rw [List.set_cons_succ]
    cases b with
    | true =>
      rw [List.filter_cons_of_neg (by decide), List.filter_cons_of_neg (by decide)]
      exact this
    | false =>
      rw [List.filter_cons_of_pos (by decide), List.filter_cons_of_pos (by decide), List.length_cons, List.length_cons, this]
theorem nots_set {L : Array Bool} {i : Nat} (hi : i < L.size) (h : L.getD i true = false) : nots L = nots (L.setIfInBounds i true) + 1 := by
  obtain ⟨l⟩ := L
  have hi' : i < l.length := hi
  have hv : l[i]? = some false := by
    rw [List.getElem?_eq_getElem hi']
    have h' : l.toArray.getD i true = l[i] := by simp [hi']
    rw [h'] at h
    rw [h]
  unfold nots
  rw [List.setIfInBounds_toArray]
  exact nots_list l i hv
theorem least {p : Nat → Prop} [DecidablePred p] : ∀ n, (∃ j, j < n ∧ p j) → ∃ j, j < n ∧ p j ∧ ∀ i, i < j → ¬ p i
  | 0, h => by obtain ⟨j, hj, _⟩ := h; omega
  | n + 1, h => by
    by_cases h' : ∃ j, j < n ∧ p j
    · obtain ⟨j, hj, h1, h2⟩ := least n h'
      exact ⟨j, by omega, h1, h2⟩
    · obtain ⟨j, hj, h1⟩ := h
      have : j = n := by
        by_cases e : j = n
        · exact e
        · exact absurd ⟨j, by omega, h1⟩ h'
      subst this
      exact ⟨j, by omega, h1, fun i hi hp => h' ⟨i, hi, hp⟩⟩
def aheadB (md : Region.Mode) (l : List Oper) : Bool := (List.range l.length).all fun j => ((l[j]?).map fun o => o.after.all fun e => !Region.binds md e || decide (e.on < j)).getD true
theorem getD_tf (L : Array Bool) {i : Nat} (hi : i < L.size) : L.getD i true = L.getD i false := by simp [hi]
theorem getD_set_t (L : Array Bool) (i j : Nat) (hj : j < L.size) : (L.setIfInBounds i true).getD j false = (decide (i = j) || L.getD j false) := by
  by_cases h : i = j
  · subst h; simp [hj]
  · simp [hj, h]

theorem rest_of {specs : List Sp} {done : Array Bool} {n z : Nat} (idx : List Nat) (hi : specs.map (fun sp => sp.i) = idx) (h : ((List.range n).all fun j => done.getD j false || idx.contains j || j == z) = true) : ∀ j, j < n → done.getD j false = false → (∃ sp ∈ specs, sp.i = j) ∨ j = z := by
  intro j hj hd
  have h1 := List.all_eq_true.1 h j (List.mem_range.2 hj)
  rw [hd, Bool.false_or, Bool.or_eq_true, List.contains_iff_mem, beq_iff_eq] at h1
  rcases h1 with h1 | h1
  · rw [← hi] at h1
    obtain ⟨sp, hsp, e⟩ := List.mem_map.1 h1
    exact .inl ⟨sp, hsp, e⟩
  · exact .inr h1
theorem dep_of {md : Region.Mode} {l : List Oper} {i k : Nat} (h : ((l[i]?).map fun o => o.after.any fun e => Region.binds md e && e.on == k) = some true) : ∃ o, l[i]? = some o ∧ ∃ e ∈ o.after, Region.binds md e = true ∧ e.on = k := by
  obtain ⟨o, ho, h1⟩ := Option.map_eq_some_iff.1 h
  rw [Array.any_eq_true] at h1
  obtain ⟨j, hj, h2⟩ := h1
  rw [Bool.and_eq_true, beq_iff_eq] at h2
  exact ⟨o, ho, o.after[j], Array.getElem_mem hj, h2.1, h2.2⟩
theorem dep_op {md : Region.Mode} {o : Oper} {k : Nat} (h : (o.after.any fun e => Region.binds md e && e.on == k) = true) : ∃ e ∈ o.after, Region.binds md e = true ∧ e.on = k := by
  rw [Array.any_eq_true] at h
  obtain ⟨j, hj, h2⟩ := h
  rw [Bool.and_eq_true, beq_iff_eq] at h2
  exact ⟨o.after[j], Array.getElem_mem hj, h2.1, h2.2⟩
theorem dep_at {md : Region.Mode} {l : List Oper} {i k : Nat} {o : Oper} (ho : l[i]? = some o) (h : ((l[i]?).map fun o => o.after.any fun e => Region.binds md e && e.on == k) = some true) : ∃ e ∈ o.after, Region.binds md e = true ∧ e.on = k := by
  obtain ⟨o', ho', h'⟩ := dep_of h
  rw [ho] at ho'
  cases ho'
  exact h'

theorem heldZ_allocs {P : Program} {l : List Oper} {Q : Exit → Act → World → Prop} {md : Region.Mode} {S : World → Prop} {z : Nat} {N : Nat} {done : Array Bool} (specs : List Sp) (F : (Nat → Value) → Act) (f0 : Nat → Value) (w0 : World)
    (hops : ∀ sp ∈ specs, ∃ o, l[sp.i]? = some o ∧ o.guard = none ∧ ∀ (f : Nat → Value) (w : World) (K : Act → World → Prop), Fr No w0 w → (∀ sp' ∈ specs, (∃ e ∈ o.after, Region.binds md e = true ∧ e.on = sp'.i) → GoodS f w0 w sp') → K (F (updV f sp.d (sp.val w.heap.size f))) (if sp.al = true then w.alloc (.cells (sp.cs f) sp.t) else w) → Oper.wp P o (F f) w K Q)
    (hz : ∃ o, l[z]? = some o ∧ o.guard = none ∧ (∀ sp ∈ specs, ∃ e ∈ o.after, Region.binds md e = true ∧ e.on = sp.i) ∧ ∀ (f : Nat → Value) (w : World) (K : Act → World → Prop), Fr No w0 w → (∀ sp ∈ specs, GoodS f w0 w sp) → (∀ a u, Q .normal a u → K a u) → Oper.wp P o (F f) w K Q)
    (hdep : ∀ sp ∈ specs, ∀ sp' ∈ specs, sp.i ≠ sp'.i → sp.d ≠ sp'.d ∧ ((∀ f v, sp'.cs (updV f sp.d v) = sp'.cs f ∧ ∀ g, sp'.val g (updV f sp.d v) = sp'.val g f) ∨ ∃ o, l[sp'.i]? = some o ∧ ∃ e ∈ o.after, Region.binds md e = true ∧ e.on = sp.i))
    (hself : ∀ sp ∈ specs, ∀ f v, sp.cs (updV f sp.d v) = sp.cs f ∧ ∀ g, sp.val g (updV f sp.d v) = sp.val g f)
    (huniq : ∀ sp ∈ specs, ∀ sp' ∈ specs, sp.i = sp'.i → sp = sp') (hiz : ∀ sp ∈ specs, sp.i ≠ z ∧ sp.i < l.length) (hzl : z < l.length)
    (hS : ∀ w, Fr No w0 w → S w)
    (hdone : done.size = l.length) (hcl : closedLB md l done = true) (hrest : ∀ j, j < l.length → done.getD j false = false → (∃ sp ∈ specs, sp.i = j) ∨ j = z) (hnot : (∀ sp ∈ specs, done.getD sp.i false = false) ∧ done.getD z false = false) (hN : nots done = N) (hah : aheadB md l = true) :
    heldZ P md l.toArray Q S z N done (F f0) w0 := by
  have key : ∀ (n : Nat) (L : Array Bool) (f : Nat → Value) (w : World), Fr No w0 w → L.size = l.length → nots L = n → closedL md l L → (∀ j, j < l.length → L.getD j false = false → (∃ sp ∈ specs, sp.i = j) ∨ j = z) → L.getD z false = false →
      (∀ sp ∈ specs, L.getD sp.i false = true → GoodS f w0 w sp) → heldZ P md l.toArray Q S z n L (F f) w := by
    intro n
    induction n with
    | zero =>
      intro L f w _ hsz hn _ _ hLz _
      have := nots_set (L := L) (i := z) (by omega) (by rw [getD_tf L (by omega)]; exact hLz)
      omega
    | succ n ih =>
      intro L f w hF hsz hn hc hr hLz hG
      have hin : ∀ {j : Nat} {o : Oper}, l[j]? = some o → L.getD j false = false → (∀ e ∈ o.after, Region.binds md e = true → L.getD e.on false = true) → j ∈ Region.ready md l.toArray L := by
        intro j o ho hf ha
        have hjl : j < l.length := (List.getElem?_eq_some_iff.1 ho).1
        exact mem_ready.2 ⟨by rw [getD_tf L (by omega)]; exact hf, o, by rw [List.getElem?_toArray]; exact ho, ha⟩
      refine ⟨fun he => ?_, fun j hj => ?_⟩
      · exfalso
        obtain ⟨j, hj, hf, hm⟩ := least (p := fun j => L.getD j false = false) l.length ⟨z, hzl, hLz⟩
        have ho : l[j]? = some l[j] := List.getElem?_eq_getElem hj
        have := hin ho hf (fun e hei hb => by
          have h1 := List.all_eq_true.1 hah j (List.mem_range.2 hj)
          rw [ho] at h1
          simp only [Option.map_some, Option.getD_some, Array.all_eq_true'] at h1
          have h2 := h1 e hei
          rw [hb] at h2
          have h3 := hm e.on (by simpa using h2)
          simpa using h3)
        rw [he] at this
        cases this
      · obtain ⟨hun, o, ho, ha⟩ := mem_ready.1 hj
        rw [List.getElem?_toArray] at ho
        have hjl : j < l.length := (List.getElem?_eq_some_iff.1 ho).1
        have hLj : L.getD j false = false := by rw [← getD_tf L (by omega)]; exact hun
        have hL' : ∀ k, k < l.length → (L.setIfInBounds j true).getD k false = (decide (j = k) || L.getD k false) := fun k hk => getD_set_t L j k (by omega)
        refine wpOp_step (by rw [List.getElem?_toArray]; exact ho) fun K hK => ?_
        rcases hr j hjl hLj with ⟨sp, hsp, rfl⟩ | rfl
        · obtain ⟨o', ho', hg, hw⟩ := hops sp hsp
          rw [ho] at ho'
          cases ho'
          rw [if_pos (by simp [Region.wanted, hg])]
          have hF' : Fr No w0 (if sp.al = true then w.alloc (.cells (sp.cs f) sp.t) else w) := by
            split
            · exact hF.alloc _
            · exact hF
          refine hw f w K hF (fun sp' hsp' ⟨e, hei, hb, he⟩ => hG sp' hsp' (by rw [← he]; exact ha e hei hb)) (hK _ _ ⟨fun _ => hS _ hF', ih _ _ _ hF' (by simpa using hsz) ?_ ?_ ?_ ?_ ?_⟩)
          · have := nots_set (L := L) (i := sp.i) (by omega) hun
            omega
          · intro k ok hok hk e hei hb
            have hkl : k < l.length := (List.getElem?_eq_some_iff.1 hok).1
            have he1 : L.getD e.on false = true := by
              rw [hL' k hkl] at hk
              by_cases e1 : sp.i = k
              · subst e1
                rw [ho] at hok
                cases hok
                exact ha e hei hb
              · exact hc k ok hok (by simpa [e1] using hk) e hei hb
            have hel : e.on < l.length := by
              by_cases h' : e.on < L.size
              · omega
              · simp [h'] at he1
            rw [hL' _ hel, he1]
            simp
          · intro k hk hf
            rw [hL' k hk] at hf
            simp only [Bool.or_eq_false_iff] at hf
            exact hr k hk hf.2
          · rw [hL' z hzl, hLz]
            simp [(hiz sp hsp).1]
          · intro sp' hsp' hl'
            rw [hL' _ (hiz sp' hsp').2] at hl'
            by_cases e1 : sp.i = sp'.i
            · obtain rfl := huniq sp hsp sp' hsp' e1
              obtain ⟨h1, h2⟩ := hself sp hsp f (sp.val w.heap.size f)
              refine ⟨w.heap.size, ?_, fun hal => ⟨hF.size, ?_⟩⟩
              · rw [h2]; unfold updV; rw [if_pos rfl]
              · rw [if_pos hal, h1]; exact blk_new _ _
            · have hl2 : L.getD sp'.i false = true := by simpa [e1] using hl'
              obtain ⟨g, hv, hb⟩ := hG sp' hsp' hl2
              obtain ⟨hd, hor⟩ := hdep sp hsp sp' hsp' e1
              rcases hor with hind | ⟨o', ho', e, hei, hbe, heo⟩
              · obtain ⟨h1, h2⟩ := hind f (sp.val w.heap.size f)
                refine ⟨g, ?_, fun hal => ⟨(hb hal).1, ?_⟩⟩
                · rw [h2]; unfold updV; rw [if_neg (fun e => hd e.symm)]; exact hv
                · rw [h1]
                  split
                  · exact blk_alloc (hb hal).2 _
                  · exact (hb hal).2
              · have := hc sp'.i o' ho' hl2 e hei hbe
                rw [heo, hLj] at this
                cases this
        · obtain ⟨o', ho', hg, hall, hw⟩ := hz
          rw [ho] at ho'
          cases ho'
          rw [if_pos (by simp [Region.wanted, hg])]
          have hlist : ∀ sp ∈ specs, L.getD sp.i false = true := fun sp hsp => by
            obtain ⟨e, hei, hb, he⟩ := hall sp hsp
            rw [← he]
            exact ha e hei hb
          refine hw f w K hF (fun sp hsp => hG sp hsp (hlist sp hsp)) fun a u hq => hK a u ⟨fun h => absurd rfl h, heldZ_done ?_ hq⟩
          rw [List.eq_nil_iff_forall_not_mem]
          intro k hk
          obtain ⟨hk1, ok, hok, _⟩ := mem_ready.1 hk
          rw [List.getElem?_toArray] at hok
          have hkl : k < l.length := (List.getElem?_eq_some_iff.1 hok).1
          have hk2 : (L.setIfInBounds j true).getD k false = false := by rw [← getD_tf _ (by simp; omega)]; exact hk1
          rw [hL' k hkl] at hk2
          simp only [Bool.or_eq_false_iff, decide_eq_false_iff_not] at hk2
          rcases hr k hkl hk2.2 with ⟨sp, hsp, rfl⟩ | e
          · rw [hlist sp hsp] at hk2; cases hk2.2
          · exact hk2.1 e.symm
  exact key N done f0 w0 (Fr.refl _ _) hdone hN (closedL_of hcl) hrest hnot.2 (fun sp hsp h => by rw [hnot.1 sp hsp] at h; cases h)
end Go.Proofs.Ytfnlimcgoeknjaa
