import Derived.Test.YtfnlimcgoeknjaaAnyR
import Derived.Test.YtfnlimcgoeknjaaTwoC
namespace Go.Proofs.Ytfnlimcgoeknjaa
open Go.RowKit Go

theorem updV_at (f : Nat → Value) (d : Nat) (v : Value) : updV f d v d = v := by simp [updV]
theorem updV_ne (f : Nat → Value) {d i : Nat} (v : Value) (h : i ≠ d) : updV f d v i = f i := by simp [updV, h]

set_option maxHeartbeats 1000000 in
/-- 'x, y := f(a), f(b)' in whatever order, where each result's blocks lie in an interval of their own. -/
theorem two_calls_i {P : Program} {l : List Oper} {Q : Exit → Act → World → Prop} {w0 : World} {a0 : Act} {f : FuncId} {tS t : TypeId} {x0 x1 d0 d1 d2 d3 d4 d5 : Tmp} {g0 g1 n : Nat} {SA SB Z : Array Value} {dS : TypeDesc} {GA GB : Nat → Nat → Array Value → World → Prop} {o0 o1 o2 o3 o4 o5 o6 o7 : Oper}
    (hl : l = [o0, o1, o2, o3, o4, o5, o6, o7]) (hchk : ((l[1]?.map fun o => o.after.any fun e => Region.binds .any e && e.on == 0) = some true) ∧ ((l[3]?.map fun o => o.after.any fun e => Region.binds .any e && e.on == 2) = some true) ∧
      ((List.range 6).all fun i => dep2 .any l 6 i && dep2 .any l 7 i) = true ∧ closedLB .any l (Array.replicate 8 false) = true ∧ aheadB .any l = true ∧ Region.ready .any l.toArray #[true, true, true, true, true, true, false, false] = [6] ∧ Region.ready .any l.toArray #[true, true, true, true, true, true, true, false] = [7] ∧ Region.ready .any l.toArray #[true, true, true, true, true, true, true, true] = [])
    (hg : o0.guard = none ∧ o1.guard = none ∧ o2.guard = none ∧ o3.guard = none ∧ o4.guard = none ∧ o5.guard = none ∧ o6.guard = none ∧ o7.guard = none)
    (k0 : o0.op = .load tS (.tmp x0)) (k2 : o2.op = .load tS (.tmp x1)) (k6 : o6.op = .store t (.tmp d4) (.tmp d1)) (k7 : o7.op = .store t (.tmp d5) (.tmp d3))
    (hdst : o0.dst = some d0 ∧ o1.dst = some d1 ∧ o2.dst = some d2 ∧ o3.dst = some d3 ∧ o4.dst = some d4 ∧ o5.dst = some d5 ∧ o6.dst = none ∧ o7.dst = none)
    (hd : [x0, d0, d1, d2, d3, d4, d5].Nodup ∧ [x1, d0, d1, d2, d3, d4, d5].Nodup) (hlt : d0 < a0.tmps.size ∧ d1 < a0.tmps.size ∧ d2 < a0.tmps.size ∧ d3 < a0.tmps.size ∧ d4 < a0.tmps.size ∧ d5 < a0.tmps.size)
    (hx0 : a0.eval (.tmp x0) = .pointer (some ⟨g0, 0, none⟩)) (hx1 : a0.eval (.tmp x1) = .pointer (some ⟨g1, 0, none⟩))
    (c1 : ∀ (a : Act) (w : World), (execOp a.eval o1).run P w = .ok (.enter f #[a.eval (.tmp d0)]) w) (c3 : ∀ (a : Act) (w : World), (execOp a.eval o3).run P w = .ok (.enter f #[a.eval (.tmp d2)]) w)
    (c4 : ∀ (a : Act) (w : World), (execOp a.eval o4).run P w = .ok (.value (.pointer (some ⟨w.heap.size, 0, none⟩))) (w.alloc (.cells Z t))) (c5 : ∀ (a : Act) (w : World), (execOp a.eval o5).run P w = .ok (.value (.pointer (some ⟨w.heap.size, 0, none⟩))) (w.alloc (.cells Z t)))
    (b0 : w0.heap[g0]? = some (.cells SA tS (0, 0))) (b1 : w0.heap[g1]? = some (.cells SB tS (0, 0)))
    (uS : P.underlying tS = some dS) (rS : (match dS with | .struct _ | .array _ _ => true | _ => false) = true) (iA : (P.info? tS).map (·.size) = some SA.size) (iB : (P.info? tS).map (·.size) = some SB.size)
    (iT : (P.info? t).map (·.size) = some n) (hZ : Z.size = n) (sA : ∀ lo hi C w, GA lo hi C w → C.size = n ∧ C.all (·.oneCell') = true) (sB : ∀ lo hi C w, GB lo hi C w → C.size = n ∧ C.all (·.oneCell') = true)
    (callA : ∀ w, Fr No w0 w → Calls P f #[.agg SA] w fun e w' => ∃ C, e = .returned (.agg C) ∧ GA w.heap.size w'.heap.size C w' ∧ Fr No w w')
    (callB : ∀ w, Fr No w0 w → Calls P f #[.agg SB] w fun e w' => ∃ C, e = .returned (.agg C) ∧ GB w.heap.size w'.heap.size C w' ∧ Fr No w w')
    (ga : ∀ lo hi C w w' S, GA lo hi C w → Fr S w w' → (∀ k, lo ≤ k → k < hi → ¬ S k) → GA lo hi C w') (gb : ∀ lo hi C w w' S, GB lo hi C w → Fr S w w' → (∀ k, lo ≤ k → k < hi → ¬ S k) → GB lo hi C w')
    (hQ : ∀ s0 s2 C D h1 h2 l1 u1 l2 u2 w, GA l1 u1 C w → GB l2 u2 D w → w.heap[h1]? = some (.cells C t (0, 0)) → w.heap[h2]? = some (.cells D t (0, 0)) → h1 ≠ h2 → w0.heap.size ≤ h1 → w0.heap.size ≤ h2 → Fr No w0 w → u1 ≤ w.heap.size → u2 ≤ w.heap.size →
      Q .normal (six a0 d0 d1 d2 d3 d4 d5 s0 (.agg C) s2 (.agg D) (.pointer (some ⟨h1, 0, none⟩)) (.pointer (some ⟨h2, 0, none⟩))) w) : heldZ P .any l.toArray Q (fun _ => True) 7 8 (Array.replicate 8 false) a0 w0.drew := by
  obtain ⟨q0, q1, q2, q3, q4, q5, q6, q7⟩ := hg
  obtain ⟨t0, t1, t2, t3, t4, t5, t6, t7⟩ := hdst
  obtain ⟨l0, l1, l2, l3, l4, l5⟩ := hlt
  obtain ⟨hdx, hdy⟩ := hd
  obtain ⟨m1, m3, mz, mcl, mah, mr6, mr7, mr8⟩ := hchk
  simp only [List.nodup_cons, List.mem_cons, List.not_mem_nil, not_or, or_false, not_false_eq_true, List.nodup_nil, and_true] at hdx hdy
  obtain ⟨⟨x00, x01, x02, x03, x04, x05⟩, ⟨n01, n02, n03, n04, n05⟩, ⟨n12, n13, n14, n15⟩, ⟨n23, n24, n25⟩, ⟨n34, n35⟩, n45⟩ := hdx
  obtain ⟨⟨x10, x11, x12, x13, x14, x15⟩, _⟩ := hdy
  have ev (s0 s1 s2 s3 s4 s5 : Value) : (six a0 d0 d1 d2 d3 d4 d5 s0 s1 s2 s3 s4 s5).eval (.tmp d0) = s0 ∧ (six a0 d0 d1 d2 d3 d4 d5 s0 s1 s2 s3 s4 s5).eval (.tmp d1) = s1 ∧ (six a0 d0 d1 d2 d3 d4 d5 s0 s1 s2 s3 s4 s5).eval (.tmp d2) = s2 ∧ (six a0 d0 d1 d2 d3 d4 d5 s0 s1 s2 s3 s4 s5).eval (.tmp d3) = s3 ∧ (six a0 d0 d1 d2 d3 d4 d5 s0 s1 s2 s3 s4 s5).eval (.tmp d4) = s4 ∧ (six a0 d0 d1 d2 d3 d4 d5 s0 s1 s2 s3 s4 s5).eval (.tmp d5) = s5 := by
    unfold six
    refine ⟨?_, ?_, ?_, ?_, ?_, ?_⟩
    · rw [eval_put_ne _ (Ne.symm n05), eval_put_ne _ (Ne.symm n04), eval_put_ne _ (Ne.symm n03), eval_put_ne _ (Ne.symm n02), eval_put_ne _ (Ne.symm n01), eval_put _ l0]
    · rw [eval_put_ne _ (Ne.symm n15), eval_put_ne _ (Ne.symm n14), eval_put_ne _ (Ne.symm n13), eval_put_ne _ (Ne.symm n12), eval_put _ (by simpa [size_put] using l1)]
    · rw [eval_put_ne _ (Ne.symm n25), eval_put_ne _ (Ne.symm n24), eval_put_ne _ (Ne.symm n23), eval_put _ (by simpa [size_put] using l2)]
    · rw [eval_put_ne _ (Ne.symm n35), eval_put_ne _ (Ne.symm n34), eval_put _ (by simpa [size_put] using l3)]
    · rw [eval_put_ne _ (Ne.symm n45), eval_put _ (by simpa [size_put] using l4)]
    · rw [eval_put _ (by simpa [size_put] using l5)]
  have ex (e : Tmp) (h0 : ¬ e = d0) (h1 : ¬ e = d1) (h2 : ¬ e = d2) (h3 : ¬ e = d3) (h4 : ¬ e = d4) (h5 : ¬ e = d5) (s0 s1 s2 s3 s4 s5 : Value) : (six a0 d0 d1 d2 d3 d4 d5 s0 s1 s2 s3 s4 s5).eval (.tmp e) = a0.eval (.tmp e) := by
    unfold six
    rw [eval_put_ne _ (Ne.symm h5), eval_put_ne _ (Ne.symm h4), eval_put_ne _ (Ne.symm h3), eval_put_ne _ (Ne.symm h2), eval_put_ne _ (Ne.symm h1), eval_put_ne _ (Ne.symm h0)]
  have p0 (s0 s1 s2 s3 s4 s5 v : Value) : (six a0 d0 d1 d2 d3 d4 d5 s0 s1 s2 s3 s4 s5).put (some d0) v = six a0 d0 d1 d2 d3 d4 d5 v s1 s2 s3 s4 s5 := by
    unfold six
    rw [put_comm _ (Ne.symm n05), put_comm _ (Ne.symm n04), put_comm _ (Ne.symm n03), put_comm _ (Ne.symm n02), put_comm _ (Ne.symm n01), put_same]
  have p1 (s0 s1 s2 s3 s4 s5 v : Value) : (six a0 d0 d1 d2 d3 d4 d5 s0 s1 s2 s3 s4 s5).put (some d1) v = six a0 d0 d1 d2 d3 d4 d5 s0 v s2 s3 s4 s5 := by
    unfold six
    rw [put_comm _ (Ne.symm n15), put_comm _ (Ne.symm n14), put_comm _ (Ne.symm n13), put_comm _ (Ne.symm n12), put_same]
  have p2 (s0 s1 s2 s3 s4 s5 v : Value) : (six a0 d0 d1 d2 d3 d4 d5 s0 s1 s2 s3 s4 s5).put (some d2) v = six a0 d0 d1 d2 d3 d4 d5 s0 s1 v s3 s4 s5 := by
    unfold six
    rw [put_comm _ (Ne.symm n25), put_comm _ (Ne.symm n24), put_comm _ (Ne.symm n23), put_same]
  have p3 (s0 s1 s2 s3 s4 s5 v : Value) : (six a0 d0 d1 d2 d3 d4 d5 s0 s1 s2 s3 s4 s5).put (some d3) v = six a0 d0 d1 d2 d3 d4 d5 s0 s1 s2 v s4 s5 := by
    unfold six
    rw [put_comm _ (Ne.symm n35), put_comm _ (Ne.symm n34), put_same]
  have p4 (s0 s1 s2 s3 s4 s5 v : Value) : (six a0 d0 d1 d2 d3 d4 d5 s0 s1 s2 s3 s4 s5).put (some d4) v = six a0 d0 d1 d2 d3 d4 d5 s0 s1 s2 s3 v s5 := by
    unfold six
    rw [put_comm _ (Ne.symm n45), put_same]
  have p5 (s0 s1 s2 s3 s4 s5 v : Value) : (six a0 d0 d1 d2 d3 d4 d5 s0 s1 s2 s3 s4 s5).put (some d5) v = six a0 d0 d1 d2 d3 d4 d5 s0 s1 s2 s3 s4 v := by
    unfold six
    rw [put_same]
  have hself : a0 = six a0 d0 d1 d2 d3 d4 d5 (a0.eval (.tmp d0)) (a0.eval (.tmp d1)) (a0.eval (.tmp d2)) (a0.eval (.tmp d3)) (a0.eval (.tmp d4)) (a0.eval (.tmp d5)) := by
    unfold six
    rw [put_self, put_self, put_self, put_self, put_self, put_self]
  have e (i : Nat) (o : Oper) (h : [o0, o1, o2, o3, o4, o5, o6, o7][i]? = some o) : l[i]? = some o := by rw [hl]; exact h
  have hsz : l.length = 8 := by rw [hl]; rfl
  have F1 : Fr No w0 w0.drew := (Fr.refl No w0).drew
  have up : ∀ {w}, Fr No w0.drew w → Fr No w0 w := fun h => F1.trans h (fun _ k => k.elim)
  let F (f : Nat → Value) : Act := six a0 d0 d1 d2 d3 d4 d5 (f 0) (f 1) (f 2) (f 3) (f 4) (f 5)
  let f0 (i : Nat) : Value := [a0.eval (.tmp d0), a0.eval (.tmp d1), a0.eval (.tmp d2), a0.eval (.tmp d3), a0.eval (.tmp d4), a0.eval (.tmp d5)].getD i undef
  have hF0 : a0 = F f0 := hself
  rw [hF0]
  have mz' : ∀ i, i < 6 → dep2 .any l 6 i = true ∧ dep2 .any l 7 i = true := by
    intro i hi
    have := List.all_eq_true.1 mz i (List.mem_range.2 hi)
    rwa [Bool.and_eq_true] at this
  refine heldZ_order (m := 2) (Lfin := #[true, true, true, true, true, true, false, false]) [⟨0, 0, fun f _ _ _ => f 0 = .agg SA⟩, ⟨1, 1, fun f lo hi w => ∃ C, f 1 = .agg C ∧ GA lo hi C w⟩, ⟨2, 2, fun f _ _ _ => f 2 = .agg SB⟩, ⟨3, 3, fun f lo hi w => ∃ C, f 3 = .agg C ∧ GB lo hi C w⟩,
    ⟨4, 4, fun f lo hi w => f 4 = .pointer (some ⟨lo, 0, none⟩) ∧ lo < hi ∧ w.heap[lo]? = some (.cells Z t (0, 0))⟩, ⟨5, 5, fun f lo hi w => f 5 = .pointer (some ⟨lo, 0, none⟩) ∧ lo < hi ∧ w.heap[lo]? = some (.cells Z t (0, 0))⟩] [6, 7] F f0 w0.drew ?hops ?hpres ?hdep ?huniq ?hiz ?hZ ?hS ?hdone ?hcl ?hrest ?hnot ?hN mah ?hLf ?hLfz ?hm ?hfin
  case hS => exact fun _ _ => trivial
  case hdone => rw [hsz]; rfl
  case hcl => exact mcl
  case hN => rfl
  case hm => rfl
  case hLf => rw [hsz]; rfl
  case hLfz =>
    intro j hj
    rw [hsz] at hj
    match j, hj with
    | 0, _ => rfl
    | 1, _ => rfl
    | 2, _ => rfl
    | 3, _ => rfl
    | 4, _ => rfl
    | 5, _ => rfl
    | 6, _ => rfl
    | 7, _ => rfl
  case hnot =>
    refine ⟨fun sp hsp => ?_, fun j hj => ?_⟩
    · simp only [List.mem_cons, List.not_mem_nil, or_false] at hsp
      rcases hsp with rfl | rfl | rfl | rfl | rfl | rfl <;> rfl
    · simp only [List.mem_cons, List.not_mem_nil, or_false] at hj
      rcases hj with rfl | rfl <;> rfl
  case hrest =>
    intro j hj _
    rw [hsz] at hj
    match j, hj with
    | 0, _ => exact .inl ⟨_, List.mem_cons_self .., rfl⟩
    | 1, _ => exact .inl ⟨_, List.mem_cons_of_mem _ (List.mem_cons_self ..), rfl⟩
    | 2, _ => exact .inl ⟨_, List.mem_cons_of_mem _ (List.mem_cons_of_mem _ (List.mem_cons_self ..)), rfl⟩
    | 3, _ => exact .inl ⟨_, List.mem_cons_of_mem _ (List.mem_cons_of_mem _ (List.mem_cons_of_mem _ (List.mem_cons_self ..))), rfl⟩
    | 4, _ => exact .inl ⟨_, List.mem_cons_of_mem _ (List.mem_cons_of_mem _ (List.mem_cons_of_mem _ (List.mem_cons_of_mem _ (List.mem_cons_self ..)))), rfl⟩
    | 5, _ => exact .inl ⟨_, List.mem_cons_of_mem _ (List.mem_cons_of_mem _ (List.mem_cons_of_mem _ (List.mem_cons_of_mem _ (List.mem_cons_of_mem _ (List.mem_cons_self ..))))), rfl⟩
    | 6, _ => exact .inr (by simp)
    | 7, _ => exact .inr (by simp)
  case hiz =>
    intro sp hsp
    rw [hsz]
    simp only [List.mem_cons, List.not_mem_nil, or_false] at hsp
    rcases hsp with rfl | rfl | rfl | rfl | rfl | rfl <;> simp
  case hZ =>
    intro j hj sp hsp
    have h6 : sp.i < 6 := by
      simp only [List.mem_cons, List.not_mem_nil, or_false] at hsp
      rcases hsp with rfl | rfl | rfl | rfl | rfl | rfl <;> simp
    simp only [List.mem_cons, List.not_mem_nil, or_false] at hj
    rcases hj with rfl | rfl
    · exact (mz' _ h6).1
    · exact (mz' _ h6).2
  case huniq =>
    intro sp hsp sp' hsp' hi
    simp only [List.mem_cons, List.not_mem_nil, or_false] at hsp hsp'
    rcases hsp with rfl | rfl | rfl | rfl | rfl | rfl <;> rcases hsp' with rfl | rfl | rfl | rfl | rfl | rfl <;> first | rfl | cases hi
  case hdep =>
    intro sp hsp sp' hsp' hi
    left
    intro f v lo hi w hG
    simp only [List.mem_cons, List.not_mem_nil, or_false] at hsp hsp'
    rcases hsp with rfl | rfl | rfl | rfl | rfl | rfl <;> rcases hsp' with rfl | rfl | rfl | rfl | rfl | rfl <;> first | exact absurd rfl hi | exact hG
  case hpres =>
    intro sp hsp f lo hi w w' hG hF
    simp only [List.mem_cons, List.not_mem_nil, or_false] at hsp
    rcases hsp with rfl | rfl | rfl | rfl | rfl | rfl
    · exact hG
    · obtain ⟨C, h1, h2⟩ := hG
      exact ⟨C, h1, ga _ _ _ _ _ _ h2 hF (fun _ _ _ k => k)⟩
    · exact hG
    · obtain ⟨C, h1, h2⟩ := hG
      exact ⟨C, h1, gb _ _ _ _ _ _ h2 hF (fun _ _ _ k => k)⟩
    · exact ⟨hG.1, hG.2.1, hF.heap hG.2.2 (fun k => k)⟩
    · exact ⟨hG.1, hG.2.1, hF.heap hG.2.2 (fun k => k)⟩
  case hops =>
    intro sp hsp
    simp only [List.mem_cons, List.not_mem_nil, or_false] at hsp
    rcases hsp with rfl | rfl | rfl | rfl | rfl | rfl
    · refine ⟨o0, e 0 _ rfl, q0, fun f w K hF _ hK => ?_⟩
      refine wp_load_row tS (.tmp x0) k0 g0 ((ex x0 x00 x01 x02 x03 x04 x05 ..).trans hx0) tS SA (0, 0) dS ((up hF).heap b0 (fun k => k)) uS rS iA ?_
      rw [t0, p0]; exact hK (.agg SA) w (Fr.refl _ _) rfl
    · refine ⟨o1, e 1 _ rfl, q1, fun f' w K hF hD hK => ?_⟩
      obtain ⟨_, _, hs0⟩ := hD _ (List.mem_cons_self ..) (dep_at (e 1 _ rfl) m1)
      refine wp_enter (c1 _ w) (by rw [(ev ..).1, hs0]; exact callA w (up hF)) ?_
      rintro e w' ⟨C, rfl, gC, fC⟩
      refine ⟨_, rfl, ?_⟩
      rw [t1, p1]; exact hK (.agg C) w' fC ⟨C, rfl, gC⟩
    · refine ⟨o2, e 2 _ rfl, q2, fun f w K hF _ hK => ?_⟩
      refine wp_load_row tS (.tmp x1) k2 g1 ((ex x1 x10 x11 x12 x13 x14 x15 ..).trans hx1) tS SB (0, 0) dS ((up hF).heap b1 (fun k => k)) uS rS iB ?_
      rw [t2, p2]; exact hK (.agg SB) w (Fr.refl _ _) rfl
    · refine ⟨o3, e 3 _ rfl, q3, fun f' w K hF hD hK => ?_⟩
      obtain ⟨_, _, hs0⟩ := hD _ (List.mem_cons_of_mem _ (List.mem_cons_of_mem _ (List.mem_cons_self ..))) (dep_at (e 3 _ rfl) m3)
      refine wp_enter (c3 _ w) (by rw [(ev ..).2.2.1, hs0]; exact callB w (up hF)) ?_
      rintro e w' ⟨C, rfl, gC, fC⟩
      refine ⟨_, rfl, ?_⟩
      rw [t3, p3]; exact hK (.agg C) w' fC ⟨C, rfl, gC⟩
    · refine ⟨o4, e 4 _ rfl, q4, fun f w K hF _ hK => ?_⟩
      unfold Oper.wp
      rw [c4, Oper.upon_value, t4, p4]
      exact hK _ _ ((Fr.refl No w).alloc _) ⟨rfl, by simp, blk_new _ _⟩
    · refine ⟨o5, e 5 _ rfl, q5, fun f w K hF _ hK => ?_⟩
      unfold Oper.wp
      rw [c5, Oper.upon_value, t5, p5]
      exact hK _ _ ((Fr.refl No w).alloc _) ⟨rfl, by simp, blk_new _ _⟩
  case hfin =>
    intro f w lo hi hF hG hI
    obtain ⟨⟨C, e1, gC⟩, la1, ub1⟩ := hG _ (List.mem_cons_of_mem _ (List.mem_cons_self ..))
    obtain ⟨⟨D, e3, gD⟩, la3, ub3⟩ := hG _ (List.mem_cons_of_mem _ (List.mem_cons_of_mem _ (List.mem_cons_of_mem _ (List.mem_cons_self ..))))
    obtain ⟨⟨e4, lt4, B4⟩, la4, ub4⟩ := hG _ (List.mem_cons_of_mem _ (List.mem_cons_of_mem _ (List.mem_cons_of_mem _ (List.mem_cons_of_mem _ (List.mem_cons_self ..)))))
    obtain ⟨⟨e5, lt5, B5⟩, la5, ub5⟩ := hG _ (List.mem_cons_of_mem _ (List.mem_cons_of_mem _ (List.mem_cons_of_mem _ (List.mem_cons_of_mem _ (List.mem_cons_of_mem _ (List.mem_cons_self ..))))))
    have i14 := hI _ (List.mem_cons_of_mem _ (List.mem_cons_self ..)) _ (List.mem_cons_of_mem _ (List.mem_cons_of_mem _ (List.mem_cons_of_mem _ (List.mem_cons_of_mem _ (List.mem_cons_self ..))))) (show (1 : Nat) ≠ 4 by decide)
    have i15 := hI _ (List.mem_cons_of_mem _ (List.mem_cons_self ..)) _ (List.mem_cons_of_mem _ (List.mem_cons_of_mem _ (List.mem_cons_of_mem _ (List.mem_cons_of_mem _ (List.mem_cons_of_mem _ (List.mem_cons_self ..)))))) (show (1 : Nat) ≠ 5 by decide)
    have i34 := hI _ (List.mem_cons_of_mem _ (List.mem_cons_of_mem _ (List.mem_cons_of_mem _ (List.mem_cons_self ..)))) _ (List.mem_cons_of_mem _ (List.mem_cons_of_mem _ (List.mem_cons_of_mem _ (List.mem_cons_of_mem _ (List.mem_cons_self ..))))) (show (3 : Nat) ≠ 4 by decide)
    have i35 := hI _ (List.mem_cons_of_mem _ (List.mem_cons_of_mem _ (List.mem_cons_of_mem _ (List.mem_cons_self ..)))) _ (List.mem_cons_of_mem _ (List.mem_cons_of_mem _ (List.mem_cons_of_mem _ (List.mem_cons_of_mem _ (List.mem_cons_of_mem _ (List.mem_cons_self ..)))))) (show (3 : Nat) ≠ 5 by decide)
    have i45 := hI _ (List.mem_cons_of_mem _ (List.mem_cons_of_mem _ (List.mem_cons_of_mem _ (List.mem_cons_of_mem _ (List.mem_cons_self ..))))) _ (List.mem_cons_of_mem _ (List.mem_cons_of_mem _ (List.mem_cons_of_mem _ (List.mem_cons_of_mem _ (List.mem_cons_of_mem _ (List.mem_cons_self ..)))))) (show (4 : Nat) ≠ 5 by decide)
    simp only at e1 e3 e4 e5 gC gD B4 B5 la1 ub1 la3 ub3 la4 ub4 la5 ub5 lt4 lt5 i14 i15 i34 i35 i45
    have hs0 : w0.heap.size ≤ w0.drew.heap.size := F1.size
    refine heldZ_step 6 (e 6 _ rfl) mr6 fun K hK => ?_
    rw [if_pos (by simp [Region.wanted, q6])]
    refine wp_store_row t (.tmp d4) (.tmp d1) k6 (lo 4) C ((ev ..).2.2.2.2.1.trans e4) ((ev ..).2.1.trans e1) t Z B4 (by rw [iT, (sA _ _ C w gC).1]) (by rw [hZ, (sA _ _ C w gC).1]) (sA _ _ C w gC).2 ?_
    rw [t6, put_none]
    have fs : Fr (fun k => k = lo 4) w (w.setRow (lo 4) C) := two_row (Fr.refl _ w) (.inl rfl)
    have B4' := setRow_heap w (lo 4) Z C t (0, 0) B4
    have B5' : (w.setRow (lo 4) C).heap[lo 5]? = some (.cells Z t (0, 0)) := fs.heap B5 (by omega)
    have gC' := ga _ _ _ _ _ _ gC fs (fun k k1 k2 e => by omega)
    have gD' := gb _ _ _ _ _ _ gD fs (fun k k1 k2 e => by omega)
    refine hK.out _ _ (fun _ => trivial) ?_
    refine heldZ_step 7 (e 7 _ rfl) mr7 fun K hK => ?_
    rw [if_pos (by simp [Region.wanted, q7])]
    refine wp_store_row t (.tmp d5) (.tmp d3) k7 (lo 5) D ((ev ..).2.2.2.2.2.trans e5) ((ev ..).2.2.2.1.trans e3) t Z B5' (by rw [iT, (sB _ _ D w gD).1]) (by rw [hZ, (sB _ _ D w gD).1]) (sB _ _ D w gD).2 ?_
    rw [t7, put_none]
    have fs2 : Fr (fun k => k = lo 5) (w.setRow (lo 4) C) ((w.setRow (lo 4) C).setRow (lo 5) D) := two_row (Fr.refl _ _) (.inl rfl)
    have B5'' := setRow_heap (w.setRow (lo 4) C) (lo 5) Z D t (0, 0) B5'
    have B4'' := fs2.heap B4' (by omega)
    have hsz1 : w.heap.size ≤ (w.setRow (lo 4) C).heap.size := fs.size
    have hsz2 := fs2.size
    refine hK.out _ _ (fun h => absurd rfl h) ?_
    refine heldZ_done mr8 ?_
    have := hQ (f 0) (f 2) C D (lo 4) (lo 5) (lo 1) (hi 1) (lo 3) (hi 3) _ (ga _ _ _ _ _ _ gC' fs2 (fun k k1 k2 e => by omega)) (gb _ _ _ _ _ _ gD' fs2 (fun k k1 k2 e => by omega)) B4'' B5'' (by omega) (by omega) (by omega) ?_ (by omega) (by omega)
    · simp only [F]
      rw [e1, e3, e4, e5]
      exact this
    · exact ((up hF).trans (fs.mono fun i hi => hi) (fun i hi => .inr (by omega))).trans fs2 (fun i hi => .inr (by omega))
end Go.Proofs.Ytfnlimcgoeknjaa
