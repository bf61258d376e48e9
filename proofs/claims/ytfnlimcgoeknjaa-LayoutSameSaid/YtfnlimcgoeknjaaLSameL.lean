import Derived.Test.YtfnlimcgoeknjaaMakeG
import Derived.Test.YtfnlimcgoeknjaaAnyR
namespace Go.Proofs.Ytfnlimcgoeknjaa
open Go.RowKit Go Fl

/-! ### A layout whose rows lie in blocks from lo up to hi -/
def Be (hi : Nat) (A : Option Addr) : Prop := ∀ ad, A = some ad → ad.block < hi
def LayI (lo hi : Nat) (w : World) (L : Lay) (C : Array Value) : Prop :=
  ∃ An cn As cs Ap cp Aq cq Ar cr Mp Mr, C = lcs An L.no.length cn As L.se.length cs Ap (List.length Mp) cp Aq L.po.length cq Ar (List.length Mr) cr L.sp L.mu L.wa L.ca L.st ∧
    (RdN lo w An 1 L.no.length (L.no.flatMap cx1) ∧ Be hi An) ∧ (RdN lo w As 3 L.se.length (L.se.flatMap sei) ∧ Be hi As) ∧ (Rd2 lo w Ap Mp ∧ (Be hi Ap ∧ ∀ x ∈ Mp, Be hi x.1) ∧ Mp.map (fun x => x.2.2) = L.pa) ∧ (RdN lo w Aq 4 L.po.length (L.po.flatMap poi) ∧ Be hi Aq) ∧ Rd2 lo w Ar Mr ∧ (Be hi Ar ∧ ∀ x ∈ Mr, Be hi x.1) ∧ Mr.map (fun x => x.2.2) = L.ro
theorem LayW.i {b : Nat} {w : World} {L : Lay} {C : Array Value} (h : LayW b w L C) : LayI b w.heap.size w L C := h
theorem RdN.fi {S : Nat → Prop} {lo hi : Nat} {w w1 : World} {A : Option Addr} {k n : Nat} {xs : List Value} (h : RdN lo w A k n xs) (b : Be hi A) (f : Fr S w w1) (hS : ∀ k, lo ≤ k → k < hi → ¬ S k) : RdN lo w1 A k n xs :=
  ⟨h.rd.fr f fun ad e => hS _ (h.lo ad e) (b ad e), h.lo⟩
theorem Rd2.fi {S : Nat → Prop} {lo hi : Nat} {w w1 : World} {A : Option Addr} {M : IL} (h : Rd2 lo w A M) (b : Be hi A ∧ ∀ x ∈ M, Be hi x.1) (f : Fr S w w1) (hS : ∀ k, lo ≤ k → k < hi → ¬ S k) : Rd2 lo w1 A M :=
  ⟨h.row.fi b.1 f hS, fun x hx => ⟨(h.each x hx).1.fr f fun ad e => hS _ ((h.each x hx).2.1 ad e) (b.2 x hx ad e), (h.each x hx).2⟩⟩
theorem LayI.fr {S : Nat → Prop} {lo hi : Nat} {w w1 : World} {L : Lay} {C : Array Value} (h : LayI lo hi w L C) (f : Fr S w w1) (hS : ∀ k, lo ≤ k → k < hi → ¬ S k) : LayI lo hi w1 L C := by
  obtain ⟨An, cn, As, cs, Ap, cp, Aq, cq, Ar, cr, Mp, Mr, e, ⟨h1, u1⟩, ⟨h2, u2⟩, ⟨h3, u3, e3⟩, ⟨h4, u4⟩, h5, u5, e5⟩ := h
  exact ⟨An, cn, As, cs, Ap, cp, Aq, cq, Ar, cr, Mp, Mr, e, ⟨h1.fi u1 f hS, u1⟩, ⟨h2.fi u2 f hS, u2⟩, ⟨h3.fi u3 f hS, u3, e3⟩, ⟨h4.fi u4 f hS, u4⟩, h5.fi u5 f hS, u5, e5⟩
theorem LayI.v {lo hi : Nat} {w : World} {L : Lay} {C : Array Value} (h : LayI lo hi w L C) : LayV lo w L C := by
  obtain ⟨An, cn, As, cs, Ap, cp, Aq, cq, Ar, cr, Mp, Mr, e, ⟨h1, _⟩, ⟨h2, _⟩, ⟨h3, _, e3⟩, ⟨h4, _⟩, h5, _, e5⟩ := h
  exact ⟨An, cn, As, cs, Ap, cp, Aq, cq, Ar, cr, Mp, Mr, e, h1, h2, ⟨h3, e3⟩, h4, h5, e5⟩
theorem LayI.size {lo hi : Nat} {w : World} {L : Lay} {C : Array Value} (h : LayI lo hi w L C) : C.size = 10 ∧ C.all (·.oneCell') = true := by
  obtain ⟨An, cn, As, cs, Ap, cp, Aq, cq, Ar, cr, Mp, Mr, rfl, _⟩ := h
  exact ⟨rfl, lcs_one ..⟩

/-- 'append(v, ys...)' onto what the call owns, k cells an element (behind 'at_builtin'). -/
theorem own_extend_k {P : Program} {ops : Array Oper} {rest : List Oper} {o : Oper} {a : Act} {Q : Exit → Act → World → Prop} {W : World} (hgd : o.guard = none) (s x : Operand) (t e : TypeId) (z : Value) (k bytes : Nat)
    (ho : o.op = .call { callee := .builtin .append, args := #[s, x], argTypes := #[t, t] })
    (ht : P.underlying t = some (.slice e)) (hinfo : (P.info? e).map (fun i => (i.zero, i.size, i.bytes)) = some (some z, k, bytes)) (hz : z.cells.size = k) (hk0 : 0 < k) (hb0 : 0 < bytes)
    (v : Value) (n : Nat) (xs ys : List Value) (A : Option Addr) (m c : Nat) (hs : a.eval s = v) (hx : a.eval x = .slice A m c) (hA : A = none → c = 0) (hR : RdK W A k m ys) (h1 : ∀ u ∈ ys, u.oneCell' = true)
    (HO : OwnK W e k v n xs) (hl : (n + m) * bytes ≤ 140737488355328)
    (h : ∀ v1 w1, OwnK w1 e k v1 (n + m) (xs ++ ys) → Fr (fun k => v.ownBlock = some k) W w1 → (v1.ownBlock = v.ownBlock ∨ ∃ b, v1.ownBlock = some b ∧ W.heap.size ≤ b) → wpList P ops Q rest (a.put o.dst v1) w1) :
    wpList P ops Q (o :: rest) a W := by
  obtain ⟨i0, hi, hzz⟩ := Option.map_eq_some_iff.1 hinfo
  simp only [Prod.mk.injEq] at hzz
  obtain ⟨hz0, hz1, hz2⟩ := hzz
  have hlen : n + m ≤ 140737488355328 := Nat.le_trans (Nat.le_mul_of_pos_right _ hb0) hl
  cases A with
  | none =>
    have hm : m = 0 := by
      cases m with
      | zero => rfl
      | succ m => obtain ⟨ad, e, _⟩ := hR.2.2 0 (Nat.mul_pos (by omega) hk0); cases e
    subst hm
    have hy : ys = [] := List.eq_nil_of_length_eq_zero (by rw [hR.1]; omega)
    subst hy
    obtain rfl := hA rfl
    refine wpList_append_own_none hgd s x t ho 0 e i0 k ht hi v n xs hs HO hx ?_
    exact h v W (by simpa using HO) (Fr.refl _ _) (.inl rfl)
  | some ad =>
    refine wpList_append_own_at W hgd s x t ho 0 e i0 z k bytes ht hi hz0 hz1 hz2 hz hk0 v n xs hs HO ad m c ys hx hR.1
      (fun j u hj => ?_) h1 (by simp only [maxLen]; omega) hl (by omega) ?_
    · have hjl : j < ys.length := (List.getElem?_eq_some_iff.1 hj).1
      obtain ⟨ad', e, hc⟩ := hR.2.2 j (by rw [← hR.1]; exact hjl)
      cases e
      rw [hc, List.getD_eq_getElem?_getD, hj]; rfl
    · intro v1 w1 hown hg _ hat
      refine h v1 w1 hown (Fr.of_grown hg) ?_
      rcases hat with hat | hat
      · exact .inl hat
      · exact .inr ⟨_, hat, Nat.le_refl _⟩
theorem flat_one {α : Type} (f : α → List Value) (hf : ∀ x, ∀ u ∈ f x, u.oneCell' = true) (l : List α) : ∀ u ∈ l.flatMap f, u.oneCell' = true := by
  intro u hu
  obtain ⟨x, _, h⟩ := List.mem_flatMap.1 hu
  exact hf x u h
theorem ilv_one (M : IL) : ∀ u ∈ ilv M, u.oneCell' = true := by
  intro u hu
  obtain ⟨x, _, rfl⟩ := List.mem_map.1 hu
  rfl
theorem sei_one (x : Int × Int × Int) : ∀ u ∈ sei x, u.oneCell' = true := by simp [sei, Value.oneCell']
theorem poi_one (x : Int × Int × Int × Int) : ∀ u ∈ poi x, u.oneCell' = true := by simp [poi, Value.oneCell']
/-- What is owned and not empty: where it lies; its first cell turned. -/
theorem OwnK.head {w : World} {e : TypeId} {k n : Nat} {v : Value} {xs : List Value} (h : OwnK w e k v n xs) (hn : 0 < n) (hk : 0 < k) : ∃ g c, v = .slice (some ⟨g, 0, none⟩) n c ∧ v.ownBlock = some g ∧ n ≤ c ∧ w.frozen? ⟨g, 0, none⟩ = false ∧ w.cell? ⟨g, 0, none⟩ = some (xs.getD 0 undef) ∧ ∀ u, OwnK (w.setCell ⟨g, 0, none⟩ u) e k v n (xs.set 0 u) := by
  obtain ⟨h1, h2⟩ := h
  rcases h2 with ⟨_, h2⟩ | ⟨g, cap, cur, rfl, hg, hb, hc, hm, hs, ht⟩
  · omega
  · have hpos : 0 < n * k := Nat.mul_pos hn hk
    refine ⟨g, cap, rfl, rfl, hc, blk_free hb 0, ?_, fun u => ⟨by simpa using h1, .inr ⟨g, cap, cur.setIfInBounds 0 u, rfl, Nat.zero_le _, blk_set hb 0 u, hc, hm, by simpa using hs, ?_⟩⟩⟩
    · rw [blk_cell hb]
      have h3 : cur.toList[0]? = xs[0]? := by
        have := congrArg (fun l => l[0]?) ht
        simp only [List.getElem?_take] at this
        rw [if_pos hpos] at this
        exact this
      rw [← Array.getElem?_toList, h3, List.getD_eq_getElem?_getD, List.getElem?_eq_getElem (by omega)]
      rfl
    · rw [Array.toList_setIfInBounds, List.take_set, ht]
end Go.Proofs.Ytfnlimcgoeknjaa
