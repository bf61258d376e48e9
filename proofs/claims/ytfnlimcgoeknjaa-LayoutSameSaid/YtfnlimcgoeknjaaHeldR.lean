import Derived.Test.YtfnlimcgoeknjaaMem
import Derived.Deep.RegionHeld3
namespace Go.Proofs.Ytfnlimcgoeknjaa
open Go.RowKit Go

/-! ### A region that draws its order, and whose last operation writes what others read: S holds ahead of that one alone -/
section
variable {P : Program} {l : List Oper} {Q : Exit → Act → World → Prop} {md : Region.Mode} {S : World → Prop} {z : Nat}

def heldZ (P : Program) (md : Region.Mode) (ops : Array Oper) (Q : Exit → Act → World → Prop) (S : World → Prop) (z : Nat) : Nat → Array Bool → Act → World → Prop
  | 0, L, a, w => Region.ready md ops L = [] ∧ Q .normal a w
  | n + 1, L, a, w => (Region.ready md ops L = [] → Q .normal a w) ∧ ∀ j ∈ Region.ready md ops L, wpOp P ops Q j (fun b u => (j ≠ z → S u) ∧ heldZ P md ops Q S z n (L.setIfInBounds j true) b u) a w

theorem heldZ_any : ∀ n L a w, heldZ P md l.toArray Q S z n L a w → wpAny P md l.toArray Q n L a w
  | 0, _, _, _, h => h
  | n + 1, _, _, _, h => ⟨h.1, fun j hj => wpOp_mono (fun b u k => heldZ_any n _ b u k.2) (h.2 j hj)⟩
theorem heldZ_start {id : Nat} {a : Act} {w : World} (S : World → Prop) (z : Nat) (hm : P.follows .mixedOrders = true)
    (h : heldZ P .any l.toArray Q S z l.length (Array.replicate l.length false) a w.drew) : (Code.region id l.toArray true).wp P Q a w :=
  wp_region_any hm (heldZ_any _ _ _ _ (by simpa using h))
theorem heldZ_done {n : Nat} {L : Array Bool} {a : Act} {w : World} (hr : Region.ready md l.toArray L = []) (h : Q .normal a w) : heldZ P md l.toArray Q S z n L a w := by
  cases n with
  | zero => exact ⟨hr, h⟩
  | succ n => exact ⟨fun _ => h, fun j hj => by rw [hr] at hj; cases hj⟩
theorem ready_not {L : Array Bool} {i : Nat} (hl : L.getD i true = false) (hz : (l[z]?.map fun o => o.after.any fun e => Region.binds md e && e.on == i) = some true) : z ∉ Region.ready md l.toArray L := fun h => by
  obtain ⟨_, oz, ho, hall⟩ := mem_ready.1 h
  rw [List.getElem?_toArray] at ho
  rw [ho] at hz
  simp only [Option.map_some, Option.some.injEq, Array.any_eq_true] at hz
  obtain ⟨k, hk, he⟩ := hz
  rw [Bool.and_eq_true, beq_iff_eq] at he
  have := hall oz.after[k] (Array.getElem_mem hk) he.1
  rw [he.2] at this
  rcases Nat.lt_or_ge i L.size with h' | h'
  · simp [h'] at hl this; rw [hl] at this; cases this
  · simp [Array.getElem?_eq_none h'] at this
theorem ready_un {ops : Array Oper} {L : Array Bool} {i : Nat} (h : i ∈ Region.ready md ops L) : L.getD i true = false := (mem_ready.1 h).1

/-- What gives its value in every world that meets S comes first. -/
theorem heldZ_first {i d : Nat} {oi : Oper} {v : Value} (hi : l[i]? = some oi) (hd : oi.dst = some d) (hsel : ∀ (j : Nat) (o : Oper) cs b, l.toArray[j]? = some o → o.op ≠ .select cs b)
    (hz : (l[z]?.map fun o => o.after.any fun e => Region.binds md e && e.on == i) = some true) (hQ : ∀ c a w, Q (.panic c) (a.put (some d) v) w → Q (.panic c) a w) :
    ∀ (n : Nat) (L : Array Bool) (a : Act) (w : World),
      (∀ j oj, l.toArray[j]? = some oj → j ≠ i → L.getD j true = false → (∀ e ∈ oj.after, Region.binds md e = true → e.on ≠ i) → oi.apart l.toArray oj = true) →
      i ∈ Region.ready md l.toArray L → YieldsIf P l.toArray S oi v a → S w →
      heldZ P md l.toArray Q S z n (L.setIfInBounds i true) (a.put (some d) v) w → heldZ P md l.toArray Q S z (n + 1) L a w
  | n, L, a, w => fun free hr hy hS H => by
    have hia : l.toArray[i]? = some oi := by rw [List.getElem?_toArray]; exact hi
    refine ⟨fun h => (by rw [h] at hr; cases hr), fun j hj => ?_⟩
    by_cases hji : j = i
    · subst hji
      exact hy.wpOp hia hS ⟨fun _ => hS, by rw [hd]; exact H⟩
    · have hjz : j ≠ z := fun e => ready_not (ready_un hr) hz (e ▸ hj)
      have hj2 := ready_mono hj hji
      match n, H with
      | 0, H => rw [H.1] at hj2; cases hj2
      | n + 1, H =>
        have h1 := H.2 j hj2
        obtain ⟨hjun, oj, hoj, hall⟩ := mem_ready.1 hj
        have hnot : ∀ e ∈ oj.after, Region.binds md e = true → e.on ≠ i := fun e he hb heq => by
          have k1 := hall e he hb
          have k0 := ready_un hr
          rw [heq] at k1
          rcases Nat.lt_or_ge i L.size with h' | h'
          · simp [h'] at k0 k1; rw [k0] at k1; cases k1
          · simp [Array.getElem?_eq_none h'] at k1
        have hQ' : ∀ c a w, Q (.panic c) (a.put oi.dst v) w → Q (.panic c) a w := by rw [hd]; exact hQ
        have h2 := wpOp_putIf hoj (free j oj hoj hji hjun hnot) (fun cs b => hsel i oi cs b hia) (fun cs b => hsel j oj cs b hoj) hQ' hy (by rw [hd]; exact h1)
        refine wpOp_mono (fun b u h3 => ⟨fun _ => h3.2.1 hjz, heldZ_first hi hd hsel hz hQ n (L.setIfInBounds j true) b u ?_ (ready_mono hr (Ne.symm hji)) h3.1 (h3.2.1 hjz) ?_⟩) h2
        · intro k ok hk hki hun hno
          refine free k ok hk hki ?_ hno
          by_cases hjk : j = k
          · subst hjk; exact hjun
          · rw [getD_set_ne true hjk] at hun; exact hun
        · rw [Array.setIfInBounds_comm _ _ hji]
          have := h3.2.2
          rw [hd] at this
          exact this

theorem heldZ_take (i d : Nat) {oi : Oper} {v : Value} {n : Nat} {L : Array Bool} {a : Act} {w : World} (hi : l[i]? = some oi) (hd : oi.dst = some d) (hs : Region.noSelect l.toArray = true)
    (hz : (l[z]?.map fun o => o.after.any fun e => Region.binds md e && e.on == i) = some true) (hf : Region.free md l.toArray L i = true) (hr : (Region.ready md l.toArray L).contains i = true)
    (hQ : ∀ c a w, Q (.panic c) (a.put (some d) v) w → Q (.panic c) a w) (hS : S w) (hw : Region.wanted oi (yielded l.toArray a.tmps) = true) (hy : ∀ w, S w → (execOp a.eval oi).run P w = .ok (.value v) w)
    (h : heldZ P md l.toArray Q S z n (L.setIfInBounds i true) (a.put (some d) v) w) : heldZ P md l.toArray Q S z (n + 1) L a w :=
  heldZ_first hi hd (Region.noSelect_spec hs) hz hQ n L a w (Region.free_spec (by rw [List.getElem?_toArray]; exact hi) hf) (by simpa using hr) (.inl ⟨hw, hy⟩) hS h

/-- One operation alone may come up. -/
theorem heldZ_step (i : Nat) {oi : Oper} {n : Nat} {L : Array Bool} {a : Act} {w : World} (hi : l[i]? = some oi) (hr : Region.ready md l.toArray L = [i])
    (h : ∀ K : Act → World → Prop, Hid (∀ b u, (i ≠ z → S u) → heldZ P md l.toArray Q S z n (L.setIfInBounds i true) b u → K b u) → if Region.wanted oi (yielded l.toArray a.tmps) = true then Oper.wp P oi a w K Q else K (a.put oi.dst undef) w) :
    heldZ P md l.toArray Q S z (n + 1) L a w := by
  refine ⟨fun h => (by rw [h] at hr; cases hr), fun j hj => ?_⟩
  rw [hr] at hj
  simp at hj
  subst hj
  refine wpOp_step (by rw [List.getElem?_toArray]; exact hi) fun K hK => ?_
  exact h K (Lib.hid fun b u k1 k2 => hK b u ⟨k1, k2⟩)
/-- Two may come up. -/
theorem heldZ_two (i j : Nat) {oi oj : Oper} {n : Nat} {L : Array Bool} {a : Act} {w : World} (hi : l[i]? = some oi) (hj : l[j]? = some oj) (hr : Region.ready md l.toArray L = [i, j])
    (h1 : ∀ K : Act → World → Prop, Hid (∀ b u, (i ≠ z → S u) → heldZ P md l.toArray Q S z n (L.setIfInBounds i true) b u → K b u) → if Region.wanted oi (yielded l.toArray a.tmps) = true then Oper.wp P oi a w K Q else K (a.put oi.dst undef) w)
    (h2 : ∀ K : Act → World → Prop, Hid (∀ b u, (j ≠ z → S u) → heldZ P md l.toArray Q S z n (L.setIfInBounds j true) b u → K b u) → if Region.wanted oj (yielded l.toArray a.tmps) = true then Oper.wp P oj a w K Q else K (a.put oj.dst undef) w) :
    heldZ P md l.toArray Q S z (n + 1) L a w := by
  refine ⟨fun h => (by rw [h] at hr; cases hr), fun k hk => ?_⟩
  rw [hr] at hk
  simp at hk
  rcases hk with rfl | rfl
  · exact wpOp_step (by rw [List.getElem?_toArray]; exact hi) fun K hK => h1 K (Lib.hid fun b u k1 k2 => hK b u ⟨k1, k2⟩)
  · exact wpOp_step (by rw [List.getElem?_toArray]; exact hj) fun K hK => h2 K (Lib.hid fun b u k1 k2 => hK b u ⟨k1, k2⟩)
end
end Go.Proofs.Ytfnlimcgoeknjaa
