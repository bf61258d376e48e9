import Derived.Test.YtfnlimcgoeknjaaTwoR
namespace Go.Proofs.Ytfnlimcgoeknjaa
open Go.RowKit Go

theorem put_none (a : Act) (v : Value) : a.put none v = a := rfl
theorem put_same (a : Act) (d : Tmp) (u v : Value) : (a.put (some d) u).put (some d) v = a.put (some d) v := by simp [Act.put]
theorem put_comm (a : Act) {d e : Tmp} (h : d ≠ e) (u v : Value) : (a.put (some d) u).put (some e) v = (a.put (some e) v).put (some d) u := by
  simp only [Act.put]
  congr 1
  exact Array.setIfInBounds_comm u v h
theorem put_self (a : Act) (d : Tmp) : a.put (some d) (a.eval (.tmp d)) = a := by
  obtain ⟨ts, ds⟩ := a
  simp only [Act.put, Act.eval]
  congr 1
  apply Array.ext
  · simp
  · intro i h1 h2
    rw [Array.getElem_setIfInBounds]
    split
    · subst_vars; simp [h2]
    · rfl
theorem eval_put (a : Act) {d : Tmp} (h : d < a.tmps.size) (u : Value) : (a.put (some d) u).eval (.tmp d) = u := by simp [Act.put, Act.eval, h]
theorem eval_put_ne (a : Act) {d e : Tmp} (h : d ≠ e) (u : Value) : (a.put (some d) u).eval (.tmp e) = a.eval (.tmp e) := by
  simp [Act.put, Act.eval, Array.getElem?_setIfInBounds_ne h]
theorem size_put (a : Act) (d : Option Tmp) (u : Value) : (a.put d u).tmps.size = a.tmps.size := by cases d <;> simp [Act.put]

def six (a : Act) (d0 d1 d2 d3 d4 d5 : Tmp) (s0 s1 s2 s3 s4 s5 : Value) : Act := (((((a.put (some d0) s0).put (some d1) s1).put (some d2) s2).put (some d3) s3).put (some d4) s4).put (some d5) s5
theorem wp_enter {P : Program} {o : Oper} {a : Act} {w : World} {K : Act → World → Prop} {Q : Exit → Act → World → Prop} {f : FuncId} {args : Array Value} (hr : (execOp a.eval o).run P w = .ok (.enter f args) w) {R : Ending → World → Prop} (hc : Calls P f args w R) (h : ∀ e w', R e w' → ∃ v, e = .returned v ∧ K (a.put o.dst v) w') : o.wp P a w K Q := by
  unfold Oper.wp
  rw [hr, Oper.upon_enter]
  refine hc.mono fun e w' hR => ?_
  obtain ⟨v, rfl, hk⟩ := h e w' hR
  exact hk

set_option maxHeartbeats 1000000 in
theorem two_calls {P : Program} {ops : Array Oper} {Q : Exit → Act → World → Prop} {w0 : World} {a0 : Act} {f : FuncId} {tS t : TypeId} {x0 x1 d0 d1 d2 d3 d4 d5 : Tmp} {g0 g1 n : Nat} {SA SB Z : Array Value} {dS : TypeDesc} {GA GB : Array Value → World → Prop} {blk : Array Value → Nat → Prop} {o0 o1 o2 o3 o4 o5 o6 o7 : Oper}
    (hall : twoAll .any ops = true) (hsz : ops.size = 8)
    (e0 : ops[0]? = some o0) (e1 : ops[1]? = some o1) (e2 : ops[2]? = some o2) (e3 : ops[3]? = some o3) (e4 : ops[4]? = some o4) (e5 : ops[5]? = some o5) (e6 : ops[6]? = some o6) (e7 : ops[7]? = some o7)
    (hg : o0.guard = none ∧ o1.guard = none ∧ o2.guard = none ∧ o3.guard = none ∧ o4.guard = none ∧ o5.guard = none ∧ o6.guard = none ∧ o7.guard = none)
    (k0 : o0.op = .load tS (.tmp x0)) (k2 : o2.op = .load tS (.tmp x1)) (k6 : o6.op = .store t (.tmp d4) (.tmp d1)) (k7 : o7.op = .store t (.tmp d5) (.tmp d3))
    (hdst : o0.dst = some d0 ∧ o1.dst = some d1 ∧ o2.dst = some d2 ∧ o3.dst = some d3 ∧ o4.dst = some d4 ∧ o5.dst = some d5 ∧ o6.dst = none ∧ o7.dst = none)
    (hd : [x0, d0, d1, d2, d3, d4, d5].Nodup ∧ [x1, d0, d1, d2, d3, d4, d5].Nodup) (hlt : d0 < a0.tmps.size ∧ d1 < a0.tmps.size ∧ d2 < a0.tmps.size ∧ d3 < a0.tmps.size ∧ d4 < a0.tmps.size ∧ d5 < a0.tmps.size)
    (hx0 : a0.eval (.tmp x0) = .pointer (some ⟨g0, 0, none⟩)) (hx1 : a0.eval (.tmp x1) = .pointer (some ⟨g1, 0, none⟩))
    (c1 : ∀ (a : Act) (w : World), (execOp a.eval o1).run P w = .ok (.enter f #[a.eval (.tmp d0)]) w) (c3 : ∀ (a : Act) (w : World), (execOp a.eval o3).run P w = .ok (.enter f #[a.eval (.tmp d2)]) w)
    (c4 : ∀ (a : Act) (w : World), (execOp a.eval o4).run P w = .ok (.value (.pointer (some ⟨w.heap.size, 0, none⟩))) (w.alloc (.cells Z t))) (c5 : ∀ (a : Act) (w : World), (execOp a.eval o5).run P w = .ok (.value (.pointer (some ⟨w.heap.size, 0, none⟩))) (w.alloc (.cells Z t)))
    (b0 : w0.heap[g0]? = some (.cells SA tS (0, 0))) (b1 : w0.heap[g1]? = some (.cells SB tS (0, 0)))
    (uS : P.underlying tS = some dS) (rS : (match dS with | .struct _ | .array _ _ => true | _ => false) = true) (iA : (P.info? tS).map (·.size) = some SA.size) (iB : (P.info? tS).map (·.size) = some SB.size)
    (iT : (P.info? t).map (·.size) = some n) (hZ : Z.size = n) (sA : ∀ C w, GA C w → C.size = n ∧ C.all (·.oneCell') = true) (sB : ∀ C w, GB C w → C.size = n ∧ C.all (·.oneCell') = true)
    (callA : ∀ w, Fr No w0 w → Calls P f #[.agg SA] w fun e w' => ∃ C, e = .returned (.agg C) ∧ GA C w' ∧ (∀ k, blk C k → w.heap.size ≤ k ∧ k < w'.heap.size) ∧ Fr No w w')
    (callB : ∀ w, Fr No w0 w → Calls P f #[.agg SB] w fun e w' => ∃ C, e = .returned (.agg C) ∧ GB C w' ∧ (∀ k, blk C k → w.heap.size ≤ k ∧ k < w'.heap.size) ∧ Fr No w w')
    (ga : ∀ C w w' S, GA C w → Fr S w w' → (∀ k, blk C k → ¬ S k) → GA C w') (gb : ∀ C w w' S, GB C w → Fr S w w' → (∀ k, blk C k → ¬ S k) → GB C w')
    (hQ : ∀ s0 s2 C D h1 h2 w, GA C w → GB D w → w.heap[h1]? = some (.cells C t (0, 0)) → w.heap[h2]? = some (.cells D t (0, 0)) → h1 ≠ h2 → w0.heap.size ≤ h1 → w0.heap.size ≤ h2 → Fr No w0 w → (∀ k, blk C k → k ≠ h1 ∧ k ≠ h2 ∧ k < w.heap.size) → (∀ k, blk D k → k ≠ h1 ∧ k ≠ h2 ∧ k < w.heap.size) →
      Q .normal (six a0 d0 d1 d2 d3 d4 d5 s0 (.agg C) s2 (.agg D) (.pointer (some ⟨h1, 0, none⟩)) (.pointer (some ⟨h2, 0, none⟩))) w) : wpAny P .any ops Q ops.size (Array.replicate ops.size false) a0 w0.drew := by
  obtain ⟨q0, q1, q2, q3, q4, q5, q6, q7⟩ := hg
  obtain ⟨t0, t1, t2, t3, t4, t5, t6, t7⟩ := hdst
  obtain ⟨l0, l1, l2, l3, l4, l5⟩ := hlt
  obtain ⟨hdx, hdy⟩ := hd
  simp only [List.nodup_cons, List.mem_cons, List.not_mem_nil, not_or, or_false, not_false_eq_true, List.nodup_nil, and_true] at hdx hdy
  obtain ⟨⟨x00, x01, x02, x03, x04, x05⟩, ⟨n01, n02, n03, n04, n05⟩, ⟨n12, n13, n14, n15⟩, ⟨n23, n24, n25⟩, ⟨n34, n35⟩, n45⟩ := hdx
  obtain ⟨⟨x10, x11, x12, x13, x14, x15⟩, _⟩ := hdy
  have ev (s0 s1 s2 s3 s4 s5 : Value) : (six a0 d0 d1 d2 d3 d4 d5 s0 s1 s2 s3 s4 s5).eval (.tmp d0) = s0 ∧ (six a0 d0 d1 d2 d3 d4 d5 s0 s1 s2 s3 s4 s5).eval (.tmp d1) = s1 ∧ (six a0 d0 d1 d2 d3 d4 d5 s0 s1 s2 s3 s4 s5).eval (.tmp d2) = s2 ∧ (six a0 d0 d1 d2 d3 d4 d5 s0 s1 s2 s3 s4 s5).eval (.tmp d3) = s3 ∧ (six a0 d0 d1 d2 d3 d4 d5 s0 s1 s2 s3 s4 s5).eval (.tmp d4) = s4 ∧ (six a0 d0 d1 d2 d3 d4 d5 s0 s1 s2 s3 s4 s5).eval (.tmp d5) = s5 := by
    unfold six
    refine ⟨?_, ?_, ?_, ?_, ?_, ?_⟩
    · rw [eval_put_ne _ (Ne.symm n05), eval_put_ne _ (Ne.symm n04), eval_put_ne _ (Ne.symm n03), eval_put_ne _ (Ne.symm n02), eval_put_ne _ (Ne.symm n01), eval_put _ l0]
    · rw [eval_put_ne _ (Ne.symm n15), eval_put_ne _ (Ne.symm n14), eval_put_ne _ (Ne.symm n13), eval_put_ne _ (Ne.symm n12), eval_put _ (by simpa [size_put] using l1)]
    · rw [eval_put_ne _ (Ne.symm n25), eval_put_ne _ (Ne.symm n24), eval_put_ne _ (Ne.symm n23), eval_put _ (by simpa [size_put] using l2)]
    · rw [eval_put_ne _ (Ne.symm n35), eval_put_ne _ (Ne.symm n34), eval_put _ (by simpa [size_put] using l3)]
    · rw [eval_put_ne _ (Ne.symm n45), eval_put _ (by simpa [size_put] using l4)]
    · rw [eval_put _ (by simpa [size_put] using l5)]
  have ex (e : Tmp) (h0 : ¬ e = d0) (h1 : ¬ e = d1) (h2 : ¬ e = d2) (h3 : ¬ e = d3) (h4 : ¬ e = d4) (h5 : ¬ e = d5) (s0 s1 s2 s3 s4 s5 : Value) : (six a0 d0 d1 d2 d3 d4 d5 s0 s1 s2 s3 s4 s5).eval (.tmp e) = a0.eval (.tmp e) := by
    unfold six
    rw [eval_put_ne _ (Ne.symm h5), eval_put_ne _ (Ne.symm h4), eval_put_ne _ (Ne.symm h3), eval_put_ne _ (Ne.symm h2), eval_put_ne _ (Ne.symm h1), eval_put_ne _ (Ne.symm h0)]
  have p0 (s0 s1 s2 s3 s4 s5 v : Value) : (six a0 d0 d1 d2 d3 d4 d5 s0 s1 s2 s3 s4 s5).put (some d0) v = six a0 d0 d1 d2 d3 d4 d5 v s1 s2 s3 s4 s5 := by
    unfold six
    rw [put_comm _ (Ne.symm n05), put_comm _ (Ne.symm n04), put_comm _ (Ne.symm n03), put_comm _ (Ne.symm n02), put_comm _ (Ne.symm n01), put_same]
  have p1 (s0 s1 s2 s3 s4 s5 v : Value) : (six a0 d0 d1 d2 d3 d4 d5 s0 s1 s2 s3 s4 s5).put (some d1) v = six a0 d0 d1 d2 d3 d4 d5 s0 v s2 s3 s4 s5 := by
    unfold six
    rw [put_comm _ (Ne.symm n15), put_comm _ (Ne.symm n14), put_comm _ (Ne.symm n13), put_comm _ (Ne.symm n12), put_same]
  have p2 (s0 s1 s2 s3 s4 s5 v : Value) : (six a0 d0 d1 d2 d3 d4 d5 s0 s1 s2 s3 s4 s5).put (some d2) v = six a0 d0 d1 d2 d3 d4 d5 s0 s1 v s3 s4 s5 := by
    unfold six
    rw [put_comm _ (Ne.symm n25), put_comm _ (Ne.symm n24), put_comm _ (Ne.symm n23), put_same]
  have p3 (s0 s1 s2 s3 s4 s5 v : Value) : (six a0 d0 d1 d2 d3 d4 d5 s0 s1 s2 s3 s4 s5).put (some d3) v = six a0 d0 d1 d2 d3 d4 d5 s0 s1 s2 v s4 s5 := by
    unfold six
    rw [put_comm _ (Ne.symm n35), put_comm _ (Ne.symm n34), put_same]
  have p4 (s0 s1 s2 s3 s4 s5 v : Value) : (six a0 d0 d1 d2 d3 d4 d5 s0 s1 s2 s3 s4 s5).put (some d4) v = six a0 d0 d1 d2 d3 d4 d5 s0 s1 s2 s3 v s5 := by
    unfold six
    rw [put_comm _ (Ne.symm n45), put_same]
  have p5 (s0 s1 s2 s3 s4 s5 v : Value) : (six a0 d0 d1 d2 d3 d4 d5 s0 s1 s2 s3 s4 s5).put (some d5) v = six a0 d0 d1 d2 d3 d4 d5 s0 s1 s2 s3 s4 v := by
    unfold six
    rw [put_same]
  have hself : a0 = six a0 d0 d1 d2 d3 d4 d5 (a0.eval (.tmp d0)) (a0.eval (.tmp d1)) (a0.eval (.tmp d2)) (a0.eval (.tmp d3)) (a0.eval (.tmp d4)) (a0.eval (.tmp d5)) := by
    unfold six
    rw [put_self, put_self, put_self, put_self, put_self, put_self]
  have H : TwoWays P ops Q w0 (six a0 d0 d1 d2 d3 d4 d5) (.agg SA) (.agg SB) Z t GA GB blk := by
    refine ⟨hall, hsz, ⟨o0, e0, q0, ?_⟩, ⟨o1, e1, q1, ?_⟩, ⟨o2, e2, q2, ?_⟩, ⟨o3, e3, q3, ?_⟩, ⟨o4, e4, q4, ?_⟩, ⟨o5, e5, q5, ?_⟩, ⟨o6, e6, q6, ?_⟩, ⟨o7, e7, q7, ?_⟩, ga, gb⟩
    · intro s0 s1 s2 s3 s4 s5 w K hF hK
      refine wp_load_row tS (.tmp x0) k0 g0 ((ex x0 x00 x01 x02 x03 x04 x05 ..).trans hx0) tS SA (0, 0) dS (hF.heap b0 (fun k => k)) uS rS iA ?_
      rw [t0, p0]; exact hK
    · intro s1 s2 s3 s4 s5 w K hF hK
      refine wp_enter (c1 _ w) (by rw [(ev ..).1]; exact callA w hF) ?_
      rintro e w' ⟨C, rfl, gC, bC, f⟩
      refine ⟨_, rfl, ?_⟩
      rw [t1, p1]; exact hK C w' gC bC f
    · intro s0 s1 s2 s3 s4 s5 w K hF hK
      refine wp_load_row tS (.tmp x1) k2 g1 ((ex x1 x10 x11 x12 x13 x14 x15 ..).trans hx1) tS SB (0, 0) dS (hF.heap b1 (fun k => k)) uS rS iB ?_
      rw [t2, p2]; exact hK
    · intro s0 s1 s3 s4 s5 w K hF hK
      refine wp_enter (c3 _ w) (by rw [(ev ..).2.2.1]; exact callB w hF) ?_
      rintro e w' ⟨C, rfl, gC, bC, f⟩
      refine ⟨_, rfl, ?_⟩
      rw [t3, p3]; exact hK C w' gC bC f
    · intro s0 s1 s2 s3 s4 s5 w K hK
      unfold Oper.wp
      rw [c4, Oper.upon_value, t4, p4]; exact hK
    · intro s0 s1 s2 s3 s4 s5 w K hK
      unfold Oper.wp
      rw [c5, Oper.upon_value, t5, p5]; exact hK
    · intro s0 C s2 s3 h s5 w K gC hb hK
      refine wp_store_row t (.tmp d4) (.tmp d1) k6 h C (ev ..).2.2.2.2.1 (ev ..).2.1 t Z hb (by rw [iT, (sA C w gC).1]) (by rw [hZ, (sA C w gC).1]) (sA C w gC).2 ?_
      rw [t6, put_none]; exact hK
    · intro s0 s1 s2 C s4 h w K gC hb hK
      refine wp_store_row t (.tmp d5) (.tmp d3) k7 h C (ev ..).2.2.2.2.2 (ev ..).2.2.2.1 t Z hb (by rw [iT, (sB C w gC).1]) (by rw [hZ, (sB C w gC).1]) (sB C w gC).2 ?_
      rw [t7, put_none]; exact hK
  have k := two_ways H (a0.eval (.tmp d0)) (a0.eval (.tmp d1)) (a0.eval (.tmp d2)) (a0.eval (.tmp d3)) (a0.eval (.tmp d4)) (a0.eval (.tmp d5)) hQ
  rw [← hself] at k
  exact k
end Go.Proofs.Ytfnlimcgoeknjaa
