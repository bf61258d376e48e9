import Derived.Test.YtfnlimcgoeknjaaAllocR
namespace Go.Proofs.Ytfnlimcgoeknjaa
open Go.RowKit Go

/-! ### A region whose operations come in whatever order, each of which only adds blocks (a call, an alloc); behind them the rest -/
/-- An operation: what its slot holds once it is done: G slots lo hi w (its blocks lie from lo up to hi). -/
structure Sq where
  i : Nat
  d : Nat
  G : (Nat → Value) → Nat → Nat → World → Prop

theorem ext_getD {L M : Array Bool} (h : L.size = M.size) (hg : ∀ j, j < L.size → L.getD j false = M.getD j false) : L = M := by
  apply Array.ext h
  intro i h1 h2
  have := hg i h1
  simpa [h1, h2] using this

/-- Operation j waits for i, itself or over one other. -/
def dep2 (md : Region.Mode) (l : List Oper) (j i : Nat) : Bool := (l[j]?.map fun o => o.after.any fun e => Region.binds md e && (e.on == i || (l[e.on]?.map fun o2 => o2.after.any fun e2 => Region.binds md e2 && e2.on == i).getD false)).getD false
theorem dep2_of {md : Region.Mode} {l : List Oper} {j i : Nat} {o : Oper} (ho : l[j]? = some o) (h : dep2 md l j i = true) : ∃ e ∈ o.after, Region.binds md e = true ∧ (e.on = i ∨ ∃ o2, l[e.on]? = some o2 ∧ ∃ e2 ∈ o2.after, Region.binds md e2 = true ∧ e2.on = i) := by
  unfold dep2 at h
  rw [ho] at h
  simp only [Option.map_some, Option.getD_some, Array.any_eq_true] at h
  obtain ⟨k, hk, he⟩ := h
  rw [Bool.and_eq_true, Bool.or_eq_true, beq_iff_eq] at he
  refine ⟨o.after[k], Array.getElem_mem hk, he.1, he.2.imp id fun h2 => ?_⟩
  cases h3 : l[o.after[k].on]? with
  | none => rw [h3] at h2; cases h2
  | some o2 =>
    rw [h3] at h2
    simp only [Option.map_some, Option.getD_some, Array.any_eq_true] at h2
    obtain ⟨k2, hk2, he2⟩ := h2
    rw [Bool.and_eq_true, beq_iff_eq] at he2
    exact ⟨o2, rfl, o2.after[k2], Array.getElem_mem hk2, he2.1, he2.2⟩

theorem heldZ_order {P : Program} {l : List Oper} {Q : Exit → Act → World → Prop} {md : Region.Mode} {S : World → Prop} {z : Nat} {N m : Nat} {done Lfin : Array Bool} (specs : List Sq) (Zs : List Nat) (F : (Nat → Value) → Act) (f0 : Nat → Value) (w0 : World)
    (hops : ∀ sp ∈ specs, ∃ o, l[sp.i]? = some o ∧ o.guard = none ∧ ∀ (f : Nat → Value) (w : World) (K : Act → World → Prop), Fr No w0 w → (∀ sp' ∈ specs, (∃ e ∈ o.after, Region.binds md e = true ∧ e.on = sp'.i) → ∃ lo hi, sp'.G f lo hi w) →
      (∀ v w', Fr No w w' → sp.G (updV f sp.d v) w.heap.size w'.heap.size w' → K (F (updV f sp.d v)) w') → Oper.wp P o (F f) w K Q)
    (hpres : ∀ sp ∈ specs, ∀ f lo hi w w', sp.G f lo hi w → Fr No w w' → sp.G f lo hi w')
    (hdep : ∀ sp ∈ specs, ∀ sp' ∈ specs, sp.i ≠ sp'.i → (∀ f v lo hi w, sp'.G f lo hi w → sp'.G (updV f sp.d v) lo hi w) ∨ ∃ o, l[sp'.i]? = some o ∧ ∃ e ∈ o.after, Region.binds md e = true ∧ e.on = sp.i)
    (huniq : ∀ sp ∈ specs, ∀ sp' ∈ specs, sp.i = sp'.i → sp = sp') (hiz : ∀ sp ∈ specs, sp.i < l.length ∧ ¬ sp.i ∈ Zs)
    (hZ : ∀ j ∈ Zs, ∀ sp ∈ specs, dep2 md l j sp.i = true)
    (hS : ∀ w, Fr No w0 w → S w)
    (hdone : done.size = l.length) (hcl : closedLB md l done = true) (hrest : ∀ j, j < l.length → done.getD j false = false → (∃ sp ∈ specs, sp.i = j) ∨ j ∈ Zs) (hnot : (∀ sp ∈ specs, done.getD sp.i false = false) ∧ ∀ j ∈ Zs, done.getD j false = false) (hN : nots done = N) (hah : aheadB md l = true)
    (hLf : Lfin.size = l.length) (hLfz : ∀ j, j < l.length → Lfin.getD j false = !Zs.contains j) (hm : nots Lfin = m)
    (hfin : ∀ (f : Nat → Value) (w : World) (lo hi : Nat → Nat), Fr No w0 w → (∀ sp ∈ specs, sp.G f (lo sp.i) (hi sp.i) w ∧ w0.heap.size ≤ lo sp.i ∧ hi sp.i ≤ w.heap.size) → (∀ sp ∈ specs, ∀ sp' ∈ specs, sp.i ≠ sp'.i → hi sp.i ≤ lo sp'.i ∨ hi sp'.i ≤ lo sp.i) → heldZ P md l.toArray Q S z m Lfin (F f) w) :
    heldZ P md l.toArray Q S z N done (F f0) w0 := by
  have key : ∀ (n : Nat) (L : Array Bool) (f : Nat → Value) (w : World) (lo hi : Nat → Nat), Fr No w0 w → L.size = l.length → nots L = n → closedL md l L → (∀ j, j < l.length → L.getD j false = false → (∃ sp ∈ specs, sp.i = j) ∨ j ∈ Zs) → (∀ j ∈ Zs, L.getD j false = false) →
      (∀ sp ∈ specs, L.getD sp.i false = true → sp.G f (lo sp.i) (hi sp.i) w ∧ w0.heap.size ≤ lo sp.i ∧ hi sp.i ≤ w.heap.size) → (∀ sp ∈ specs, ∀ sp' ∈ specs, sp.i ≠ sp'.i → L.getD sp.i false = true → L.getD sp'.i false = true → hi sp.i ≤ lo sp'.i ∨ hi sp'.i ≤ lo sp.i) → heldZ P md l.toArray Q S z n L (F f) w := by
    intro n
    induction n with
    | zero =>
      intro L f w lo hi hF hsz hn hc hr hLz hG hI
      by_cases hall : ∀ sp ∈ specs, L.getD sp.i false = true
      · have hL : L = Lfin := by
          apply ext_getD (by omega)
          intro j hj
          rw [hLfz j (by omega)]
          cases hb : L.getD j false with
          | true =>
            cases hz : Zs.contains j with
            | false => rfl
            | true => rw [hLz j (by simpa using hz)] at hb; cases hb
          | false =>
            rcases hr j (by omega) hb with ⟨sp, hsp, rfl⟩ | h
            · rw [hall sp hsp] at hb; cases hb
            · simp [h]
        subst hL
        rw [← hn, hm]
        exact hfin f w lo hi hF (fun sp hsp => hG sp hsp (hall sp hsp)) (fun sp hsp sp' hsp' h => hI sp hsp sp' hsp' h (hall sp hsp) (hall sp' hsp'))
      · exfalso
        apply hall
        intro sp hsp
        cases hb : L.getD sp.i false with
        | true => rfl
        | false =>
          have := nots_set (L := L) (i := sp.i) (by have := (hiz sp hsp).1; omega) (by rw [getD_tf L (by have := (hiz sp hsp).1; omega)]; exact hb)
          omega
    | succ n ih =>
      intro L f w lo hi hF hsz hn hc hr hLz hG hI
      by_cases hall : ∀ sp ∈ specs, L.getD sp.i false = true
      · have hL : L = Lfin := by
          apply ext_getD (by omega)
          intro j hj
          rw [hLfz j (by omega)]
          cases hb : L.getD j false with
          | true =>
            cases hz : Zs.contains j with
            | false => rfl
            | true => rw [hLz j (by simpa using hz)] at hb; cases hb
          | false =>
            rcases hr j (by omega) hb with ⟨sp, hsp, rfl⟩ | h
            · rw [hall sp hsp] at hb; cases hb
            · simp [h]
        subst hL
        rw [← hn, hm]
        exact hfin f w lo hi hF (fun sp hsp => hG sp hsp (hall sp hsp)) (fun sp hsp sp' hsp' h => hI sp hsp sp' hsp' h (hall sp hsp) (hall sp' hsp'))
      have hin : ∀ {j : Nat} {o : Oper}, l[j]? = some o → L.getD j false = false → (∀ e ∈ o.after, Region.binds md e = true → L.getD e.on false = true) → j ∈ Region.ready md l.toArray L := by
        intro j o ho hf ha
        have hjl : j < l.length := (List.getElem?_eq_some_iff.1 ho).1
        exact mem_ready.2 ⟨by rw [getD_tf L (by omega)]; exact hf, o, by rw [List.getElem?_toArray]; exact ho, ha⟩
      obtain ⟨spu, hspu, hnu⟩ : ∃ sp, sp ∈ specs ∧ ¬ L.getD sp.i false = true := by
        apply Classical.byContradiction
        intro h
        exact hall fun sp hsp => Classical.byContradiction fun h' => h ⟨sp, hsp, h'⟩
      refine ⟨fun he => ?_, fun j hj => ?_⟩
      · exfalso
        obtain ⟨j, hj, hf, hmn⟩ := least (p := fun j => L.getD j false = false) l.length ⟨spu.i, (hiz spu hspu).1, by simpa using hnu⟩
        have ho : l[j]? = some l[j] := List.getElem?_eq_getElem hj
        have := hin ho hf (fun e hei hb => by
          have h1 := List.all_eq_true.1 hah j (List.mem_range.2 hj)
          rw [ho] at h1
          simp only [Option.map_some, Option.getD_some, Array.all_eq_true'] at h1
          have h2 := h1 e hei
          rw [hb] at h2
          have h3 := hmn e.on (by simpa using h2)
          simpa using h3)
        rw [he] at this
        cases this
      · obtain ⟨hun, o, ho, ha⟩ := mem_ready.1 hj
        rw [List.getElem?_toArray] at ho
        have hjl : j < l.length := (List.getElem?_eq_some_iff.1 ho).1
        have hLj : L.getD j false = false := by rw [← getD_tf L (by omega)]; exact hun
        have hL' : ∀ k, k < l.length → (L.setIfInBounds j true).getD k false = (decide (j = k) || L.getD k false) := fun k hk => getD_set_t L j k (by omega)
        refine wpOp_step (by rw [List.getElem?_toArray]; exact ho) fun K hK => ?_
        rcases hr j hjl hLj with ⟨sp, hsp, rfl⟩ | hz
        · obtain ⟨o', ho', hg, hw⟩ := hops sp hsp
          rw [ho] at ho'
          cases ho'
          rw [if_pos (by simp [Region.wanted, hg])]
          refine hw f w K hF (fun sp' hsp' ⟨e, hei, hb, he⟩ => ⟨_, _, (hG sp' hsp' (by rw [← he]; exact ha e hei hb)).1⟩) fun v w' hFw hGw => ?_
          have hF' : Fr No w0 w' := hF.trans hFw (fun _ k => k.elim)
          refine hK _ _ ⟨fun _ => hS _ hF', ih _ _ _ (fun i => if i = sp.i then w.heap.size else lo i) (fun i => if i = sp.i then w'.heap.size else hi i) hF' (by simpa using hsz) ?_ ?_ ?_ ?_ ?_ ?_⟩
          · have := nots_set (L := L) (i := sp.i) (by omega) hun
            omega
          · intro k ok hok hk e hei hb
            have hkl : k < l.length := (List.getElem?_eq_some_iff.1 hok).1
            have he1 : L.getD e.on false = true := by
              rw [hL' k hkl] at hk
              by_cases e1 : sp.i = k
              · subst e1
                rw [ho] at hok
                cases hok
                exact ha e hei hb
              · exact hc k ok hok (by simpa [e1] using hk) e hei hb
            have hel : e.on < l.length := by
              by_cases h' : e.on < L.size
              · omega
              · simp [h'] at he1
            rw [hL' _ hel, he1]
            simp
          · intro k hk hf
            rw [hL' k hk] at hf
            simp only [Bool.or_eq_false_iff] at hf
            exact hr k hk hf.2
          · intro k hk
            have hne : sp.i ≠ k := fun e => (hiz sp hsp).2 (e ▸ hk)
            by_cases hkl : k < l.length
            · rw [hL' k hkl, hLz k hk]
              simp [hne]
            · rw [Array.getD, dif_neg (by simp; omega)]
          · intro sp' hsp' hl'
            rw [hL' _ (hiz sp' hsp').1] at hl'
            by_cases e1 : sp.i = sp'.i
            · obtain rfl := huniq sp hsp sp' hsp' e1
              simp only [if_true]
              exact ⟨hGw, hF.size, Nat.le_refl _⟩
            · have hl2 : L.getD sp'.i false = true := by simpa [e1] using hl'
              obtain ⟨hg1, hg2, hg3⟩ := hG sp' hsp' hl2
              simp only [if_neg (fun e => e1 (Eq.symm e))]
              refine ⟨?_, hg2, Nat.le_trans hg3 hFw.size⟩
              rcases hdep sp hsp sp' hsp' e1 with hind | ⟨o', ho', e, hei, hbe, heo⟩
              · exact hind _ _ _ _ _ (hpres sp' hsp' _ _ _ _ _ hg1 hFw)
              · have := hc sp'.i o' ho' hl2 e hei hbe
                rw [heo, hLj] at this
                cases this
          · intro s1 h1 s2 h2 hne l1 l2
            rw [hL' _ (hiz s1 h1).1] at l1
            rw [hL' _ (hiz s2 h2).1] at l2
            by_cases e1 : s1.i = sp.i
            · by_cases e2 : s2.i = sp.i
              · exact absurd (e1.trans e2.symm) hne
              · simp only [e1, if_true, if_neg e2]
                have l2' : L.getD s2.i false = true := by rw [decide_eq_false (fun e : sp.i = s2.i => e2 e.symm), Bool.false_or] at l2; exact l2
                exact .inr (hG s2 h2 l2').2.2
            · have l1' : L.getD s1.i false = true := by rw [decide_eq_false (fun e : sp.i = s1.i => e1 e.symm), Bool.false_or] at l1; exact l1
              by_cases e2 : s2.i = sp.i
              · simp only [e2, if_true, if_neg e1]
                exact .inl (hG s1 h1 l1').2.2
              · have l2' : L.getD s2.i false = true := by rw [decide_eq_false (fun e : sp.i = s2.i => e2 e.symm), Bool.false_or] at l2; exact l2
                simp only [if_neg e1, if_neg e2]
                exact hI s1 h1 s2 h2 hne l1' l2'
        · exfalso
          obtain ⟨e, hei, hbe, hk⟩ := dep2_of ho (hZ j hz spu hspu)
          have h1 := ha e hei hbe
          rcases hk with hk | ⟨o2, ho2, e2, he2, hb2, hk⟩
          · rw [hk] at h1; exact hnu h1
          · have h2 := hc e.on o2 ho2 h1 e2 he2 hb2
            rw [hk] at h2
            exact hnu h2
  exact key N done f0 w0 (fun _ => 0) (fun _ => 0) (Fr.refl _ _) hdone hN (closedL_of hcl) hrest hnot.2 (fun sp hsp h => by rw [hnot.1 sp hsp] at h; cases h) (fun sp hsp sp' _ _ h _ => by rw [hnot.1 sp hsp] at h; cases h)
end Go.Proofs.Ytfnlimcgoeknjaa
