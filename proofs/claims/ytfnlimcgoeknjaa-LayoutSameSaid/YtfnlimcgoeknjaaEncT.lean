import Derived.Test.YtfnlimcgoeknjaaEncX
import Derived.Test.YtfnlimcgoeknjaaCloseW
import Derived.LoopN
import Derived.Laws.RangeString
namespace Go.Proofs.Ytfnlimcgoeknjaa
open Go.RowKit Go Fl

/-- A layout that is read: where its rows lie is known to be there. -/
def Up (w : World) (A : Option Addr) : Prop := ∀ ad, A = some ad → ad.block < w.heap.size
def LayU (w : World) (L : Lay) (C : Array Value) : Prop :=
  ∃ An cn As cs Ap cp Aq cq Ar cr Mp Mr, C = lcs An L.no.length cn As L.se.length cs Ap (List.length Mp) cp Aq L.po.length cq Ar (List.length Mr) cr L.sp L.mu L.wa L.ca L.st ∧
    (RdK w An 1 L.no.length (L.no.flatMap cx1) ∧ Up w An) ∧ (RdK w As 3 L.se.length (L.se.flatMap sei) ∧ Up w As) ∧ (Rd2 0 w Ap Mp ∧ Up w Ap ∧ (∀ x ∈ Mp, Up w x.1) ∧ Mp.map (fun x => x.2.2) = L.pa) ∧ (RdK w Aq 4 L.po.length (L.po.flatMap poi) ∧ Up w Aq) ∧ Rd2 0 w Ar Mr ∧ Up w Ar ∧ (∀ x ∈ Mr, Up w x.1) ∧ Mr.map (fun x => x.2.2) = L.ro
def layBits (L : Lay) : List Bool := putBits 66 8 ++ putBits 76 8 ++ layB noE L.no ++ layB seE L.se ++ layB roE L.pa ++ layB poE L.po ++ layB roE L.ro ++ numB 16 [L.sp, L.mu, L.wa, L.ca, L.st]
def putObj (w : World) (it : Nat) (o : Obj) : World := { w with heap := w.heap.setIfInBounds it o }
theorem putObj_fr (w : World) (it : Nat) (o : Obj) : Fr (fun k => k = it) w (putObj w it o) := ⟨rfl, rfl, rfl, by simp [putObj], fun k _ hk => by
  show (w.heap.setIfInBounds it o)[k]? = _
  rw [Array.getElem?_setIfInBounds_ne (fun e => hk e.symm)]⟩
theorem putObj_at {w : World} {it : Nat} (h : it < w.heap.size) (o : Obj) : (putObj w it o).heap[it]? = some o := by
  show (w.heap.setIfInBounds it o)[it]? = _
  simp [h]
theorem next_ascii {P : Program} {w : World} {it : Nat} {s : ByteArray} {pos : Nat} (hb : w.heap[it]? = some (.stringIter s pos)) (ty : TypeId) (h : pos < s.size) (ha : (s[pos]'h).toNat < 128) :
    (Instr.next (.pointer (some ⟨it, 0, none⟩)) true ty).run P w = .ok (.tuple #[.bool true, .int .i64 pos, .int .i32 (s[pos]'h).toNat]) (putObj w it (.stringIter s (pos + 1))) := by
  simp only [Instr.next, getObj, setObj, Sem.run_bind, Sem.run, hb, Result.andThen, h, if_true, decode_ascii s pos h ha]
  simp [goInt, putObj]
theorem next_end {P : Program} {w : World} {it : Nat} {s : ByteArray} {pos : Nat} (hb : w.heap[it]? = some (.stringIter s pos)) (ty : TypeId) (h : ¬ pos < s.size) :
    (Instr.next (.pointer (some ⟨it, 0, none⟩)) true ty).run P w = .ok (.tuple #[.bool false]) w := by
  simp [Instr.next, getObj, Sem.run, hb, h]
/-- The iterator is turned: the writer is as it was. -/
theorem EncS.iter {S : Nat → Prop} {w1 w : World} {g it : Nat} {b : List Bool} (h : EncS S w1 w g b) {s : ByteArray} {pos : Nat} (hb : w.heap[it]? = some (.stringIter s pos)) (hi : w1.heap.size ≤ it) (o : Obj) : EncS S w1 (putObj w it o) g b := by
  obtain ⟨v, h1, h2, h3, h4, h5⟩ := h
  refine ⟨v, h1.fr (putObj_fr w it o) (fun e => by omega) (fun k hk e => ?_), h2.trans (putObj_fr w it o) (fun i hi2 => .inr (by rw [show i = it from hi2]; exact hi)), h3, h4, h5⟩
  have e2 : k = it := e
  subst e2
  obtain ⟨_, k2⟩ := h1.own
  rcases k2 with ⟨rfl, _⟩ | ⟨q, cap, cur, rfl, _, hq, _⟩
  · simp [Value.ownBlock] at hk
  · have : q = k := by simpa [Value.ownBlock] using hk
    rw [this, hb] at hq
    cases hq
/-- From here on. -/
theorem EncS.here {S : Nat → Prop} {w1 w : World} {g it : Nat} {b : List Bool} (h : EncS S w1 w g b) {s : ByteArray} {pos : Nat} (hb : w.heap[it]? = some (.stringIter s pos)) : ∃ S' : Nat → Prop, EncS S' w w g b ∧ ¬ S' it ∧ ∀ w' b', EncS S' w w' g b' → EncS S w1 w' g b' := by
  obtain ⟨v, h1, h2, h3, h4, h5⟩ := h
  have hg : g < w.heap.size := blk_lt h1.blk
  refine ⟨fun k => k = g ∨ v.ownBlock = some k, ⟨v, h1, Fr.refl _ _, .inl rfl, fun k hk => .inl (.inr hk), hg⟩, ?_, ?_⟩
  · rintro (e | e)
    · have := h1.blk
      rw [← e, hb] at this
      cases this
    · obtain ⟨_, k2⟩ := h1.own
      rcases k2 with ⟨rfl, _⟩ | ⟨q, cap, cur, rfl, _, hq, _⟩
      · simp [Value.ownBlock] at e
      · have e2 : q = it := by simpa [Value.ownBlock] using e
        rw [e2, hb] at hq
        cases hq
  · rintro w' b' ⟨v', k1, k2, _, k4, _⟩
    refine ⟨v', k1, h2.trans k2 (fun i hi => ?_), h3, fun k hk => ?_, h5⟩
    · rcases hi with e | e
      · rw [e]; exact .inl h3
      · exact h4 i e
    · rcases k4 k hk with (e | e) | e
      · rw [e]; exact .inl h3
      · exact h4 k e
      · exact .inr (Nat.le_trans h2.size e)
theorem ten0 {w : World} {g : Nat} {t : TypeId} {c0 c1 c2 c3 c4 c5 c6 c7 c8 c9 : Value} (h : w.heap[g]? = some (.cells #[c0, c1, c2, c3, c4, c5, c6, c7, c8, c9] t (0, 0))) :
    w.cell? ⟨g, 0, none⟩ = some c0 ∧ w.cell? ⟨g, 1, none⟩ = some c1 ∧ w.cell? ⟨g, 2, none⟩ = some c2 ∧ w.cell? ⟨g, 3, none⟩ = some c3 ∧ w.cell? ⟨g, 4, none⟩ = some c4 ∧
    w.cell? ⟨g, 5, none⟩ = some c5 ∧ w.cell? ⟨g, 6, none⟩ = some c6 ∧ w.cell? ⟨g, 7, none⟩ = some c7 ∧ w.cell? ⟨g, 8, none⟩ = some c8 ∧ w.cell? ⟨g, 9, none⟩ = some c9 := by
  refine ⟨?_, ?_, ?_, ?_, ?_, ?_, ?_, ?_, ?_, ?_⟩ <;> (rw [blk_cell h]; rfl)
def SG (g : Nat) : Nat → Prop := fun k => k = g

set_option maxRecDepth 20000 in
set_option maxHeartbeats 4000000 in
theorem lencode_any {L : Lay} {C : Array Value} {w : World} (hC : LayU w L C) (hS : ∀ x ∈ L.no, x.1.natAbs < 2 ^ 53 ∧ x.2.natAbs < 2 ^ 53) (hb : (layBits L).length ≤ 1000000) :
    Calls Try.prog 17 #[.agg C] w fun e w' => ∃ v, e = .returned v ∧ Own w' 5 v (bys (closed (pack (layBits L)))) ∧ Hid (∀ k, v.ownBlock = some k → w.heap.size ≤ k) ∧ Fr No w w' := by
  obtain ⟨An, cn, As, cs, Ap, cp, Aq, cq, Ar, cr, Mp, Mr, rfl, ⟨h1, u1⟩, ⟨h2, u2⟩, ⟨h3, u3, x3, e3⟩, ⟨h4, u4⟩, h5, u5, x5, e5⟩ := hC
  unfold lcs
  obtain ⟨o1, ho1⟩ : ∃ o, Obj.cells #[.slice An L.no.length cn, .slice As L.se.length cs, .slice Ap (List.length Mp) cp, .slice Aq L.po.length cq, .slice Ar (List.length Mr) cr, .int .i64 L.sp, .int .i64 L.mu, .int .i64 L.wa, .int .i64 L.ca, .int .i64 L.st] 38 = o := ⟨_, rfl⟩
  obtain ⟨o2, ho2⟩ : ∃ o, Obj.cells #[.slice none 0 0, .int .i64 0] 84 = o := ⟨_, rfl⟩
  obtain ⟨h, hh⟩ : ∃ h, w.heap.size = h := ⟨_, rfl⟩
  obtain ⟨W1, hW1⟩ : ∃ W, ((w.alloc o1).alloc o2).alloc (.cells #[.pointer (some ⟨h + 1, 0, none⟩)] 82) = W := ⟨_, rfl⟩
  have s1 : (w.alloc o1).heap.size = h + 1 := by simp [hh]
  have s2 : ((w.alloc o1).alloc o2).heap.size = h + 2 := by simp [hh]
  have f1 : Fr No w W1 := by rw [← hW1]; exact (((Fr.refl No w).alloc _).alloc _).alloc _
  have s3 : W1.heap.size = h + 3 := by rw [← hW1]; simp [hh]
  have b1 : W1.heap[h]? = some o1 := by rw [← hW1, ← hh]; exact blk_alloc (blk_alloc (by rw [← ho1]; exact blk_new _ _) _) _
  have b2 : W1.heap[h + 1]? = some o2 := by rw [← hW1, ← s1]; exact blk_alloc (by rw [← ho2]; exact blk_new _ _) _
  have c3 : W1.cell? ⟨h + 2, 0, none⟩ = some (.pointer (some ⟨h + 1, 0, none⟩)) := by rw [← hW1, ← s2, blk_cell (blk_new _ _)]; rfl
  rw [← ho2] at b2
  have E1 : EncS (SG (h + 1)) W1 W1 (h + 1) [] := ⟨.slice none 0 0, ⟨b2, Own.nil _ _, by simp [Value.ownBlock]⟩, Fr.refl _ _, rfl, fun k e => by simp [Value.ownBlock] at e, by omega⟩
  have HC : Hid (CapS (SG (h + 1)) W1 (h + 2) (h + 1)) := ⟨c3, fun e => by have e2 : h + 2 = h + 1 := e; omega⟩
  rw [← ho1] at b1
  have HB1 := Lib.hid b1
  have HE := Lib.hid E1
  have HF := Lib.hid f1
  have HS3 := Lib.hid s3
  subst ho1 ho2
  have HLD := Lib.hid hb
  have hlb : (layB noE L.no).length + (layB seE L.se).length + (layB ilE Mp).length + (layB poE L.po).length + (layB ilE Mr).length + 96 ≤ 1000000 := by
    unfold layBits at hb
    simp only [List.length_append, putBits_length, numB_length, List.length_cons, List.length_nil] at hb
    rw [ilE_map, ilE_map, e3, e5]
    omega
  have HLB := Lib.hid hlb
  have HLC : Hid ((layB noE L.no).length + (layB seE L.se).length + (layB roE L.pa).length + (layB poE L.po).length + (layB roE L.ro).length + 96 ≤ 1000000) := by
    rw [ilE_map, ilE_map, e3, e5] at hlb
    exact hlb
  have NS : Hid (∀ A, Up w A → ∀ ad, A = some ad → ¬ SG (h + 1) ad.block) := by
    show ∀ A, _
    intro A hA ad e e2
    have := hA ad e
    have e3 : ad.block = h + 1 := e2
    omega
  have NT : Hid (∀ A, Up w A → ∀ ad, A = some ad → ¬ SG (h + 1) ad.block ∧ ad.block < W1.heap.size) := by
    show ∀ A, _
    intro A hA ad e
    refine ⟨fun e2 => ?_, by have := hA ad e; omega⟩
    have := hA ad e
    have e3 : ad.block = h + 1 := e2
    omega
  have H1 := Lib.hid (h1.no f1)
  have H2 := Lib.hid (h2.no f1)
  have H3 := Lib.hid ((h3.fr f1 (fun _ _ k => k)).row.rd)
  have H4 := Lib.hid (h4.no f1)
  have H5 := Lib.hid ((h5.fr f1 (fun _ _ k => k)).row.rd)
  have X3 : Hid (∀ x ∈ Mp, Rd W1 x.1 (ints .i64 x.2.2) ∧ Up w x.1) := fun x hx => ⟨((h3.fr f1 (fun _ _ k => k)).each x hx).1, x3 x hx⟩
  have X5 : Hid (∀ x ∈ Mr, Rd W1 x.1 (ints .i64 x.2.2) ∧ Up w x.1) := fun x hx => ⟨((h5.fr f1 (fun _ _ k => k)).each x hx).1, x5 x hx⟩
  clear hb hlb h1 h2 h3 h4 h5 x3 x5
  clear b1 b2 s1 s2 s3 f1 E1
  go_enter Try.func17, Try.ntmps17
  obtain ⟨bl, hbl⟩ : ∃ s : ByteArray, (⟨#[66, 76]⟩ : ByteArray) = s := ⟨_, rfl⟩
  have hsz : bl.size = 2 := by rw [← hbl]; rfl
  have hb0 : ∀ h : 0 < bl.size, (bl[0]'h).toNat = 66 := by subst hbl; intro _; rfl
  have hb1 : ∀ h : 1 < bl.size, (bl[1]'h).toNat = 76 := by subst hbl; intro _; rfl
  have it0 := World.iter_heap W1 bl 0
  have fi : Fr No W1 (W1.iter bl 0) := (Fr.refl No W1).alloc _
  have E2 := HE.out.no fi
  have nx1 := next_ascii (P := Try.prog) it0 0 (by omega) (by rw [hb0]; decide)
  rw [hb0] at nx1
  have E3 := E2.iter it0 (Nat.le_refl _) (.stringIter bl (0 + 1))
  have it1 : (putObj (W1.iter bl 0) W1.heap.size (.stringIter bl (0 + 1))).heap[W1.heap.size]? = some (.stringIter bl 1) := putObj_at (blk_lt it0) (.stringIter bl (0 + 1))
  obtain ⟨V1, hV1⟩ : ∃ W, putObj (W1.iter bl 0) W1.heap.size (.stringIter bl (0 + 1)) = W := ⟨_, rfl⟩
  rw [hV1] at nx1 E3 it1
  obtain ⟨it, hit0⟩ : ∃ it, W1.heap.size = it := ⟨_, rfl⟩
  rw [hit0] at nx1 it1
  have HIT0 := Lib.hid hit0
  obtain ⟨S', E4, hit, back⟩ := E3.here it1
  have HP := Lib.hid (putS E4 (by simp) 66 (by omega) 8 8 rfl)
  have c4 := HC.out.at E3
  have HBK := Lib.hid back
  have HIT := Lib.hid hit
  have HI1 := Lib.hid it1
  have HH1 := Lib.hid hb1
  have HSZ := Lib.hid hsz
  clear it0 fi E2 E3 E4 back hit it1 hV1 hb0 hb1 hsz
  go_wp2_with fail
  refine wp_loop_rounds 3 ?_
  rw [rounds_succ]
  go_wp2_with fail
  refine HP.out.mono ?_
  rintro e w3 ⟨rfl, H3⟩
  have it2 := H3.fr.heap HI1.out HIT.out
  have E5 := HBK.out _ _ H3
  have nx2 := next_ascii (P := Try.prog) it2 0 (by have := HSZ.out; omega) (by rw [HH1.out]; decide)
  rw [HH1.out] at nx2
  have E6 := E5.iter it2 (Nat.le_of_eq HIT0.out) (.stringIter bl (1 + 1))
  have it3 : (putObj w3 it (.stringIter bl (1 + 1))).heap[it]? = some (.stringIter bl 2) := putObj_at (blk_lt it2) (.stringIter bl (1 + 1))
  obtain ⟨V2, hV2⟩ : ∃ W, putObj w3 it (.stringIter bl (1 + 1)) = W := ⟨_, rfl⟩
  rw [hV2] at nx2 E6 it3
  obtain ⟨S2, E7, hit2, back2⟩ := E6.here it3
  have HP2 := Lib.hid (putS E7 (by simp [putBits_length]) 76 (by omega) 8 8 rfl)
  have c5 := HC.out.at E6
  have HBK2 := Lib.hid back2
  have HIT2 := Lib.hid hit2
  have HI3 := Lib.hid it3
  clear it2 E5 E6 it3 E7 hit2 back2 hV2 H3 HP HBK HIT HI1 c4 nx1
  go_wp2
  rw [rounds_succ]
  go_wp2_with fail
  refine HP2.out.mono ?_
  rintro e w4 ⟨rfl, H4⟩
  have it4 := H4.fr.heap HI3.out HIT2.out
  have nx3 := next_end (P := Try.prog) it4 0 (by have := HSZ.out; omega)
  have E8 := HBK2.out _ _ H4
  rw [List.nil_append] at E8
  have HE8 := Lib.hid E8
  clear it4 E8 H4 HP2 HBK2 HIT2 HI3 c5 nx2
  go_wp2
  rw [rounds_succ]
  have c6 := HC.out.at HE8.out
  have q1 := ten0 (HE8.out.fr.heap HB1.out (fun e => by have e2 : h = h + 1 := e; omega))
  obtain ⟨k0, k1, k2, k3, k4, k5, k6, k7, k8, k9⟩ := q1
  clear k0 k1 k2 k3 k4 k5 k6 k7 k8 k9 c6
  have hmf : ∀ (fn : Fn) (first cap : Array Value) (w : World), (Instr.makeFunc fn first cap).run Try.prog w = .ok (.func fn first cap) w := fun _ _ _ _ => rfl
  have E := HE8.out
  have c6 := HC.out.at E
  have k0 := (ten0 (E.fr.heap HB1.out (fun e => by have e2 : h = h + 1 := e; omega)))
  obtain ⟨k0, k1, k2, k3, k4, _, _, _, _, _⟩ := k0
  have HL := Lib.hid (layC_any (cap := cn) E HC.out (H1.out) (NS.out _ u1) hS (by have := HLB.out; simp only [List.length_append, putBits_length]; omega))
  clear E
  go_wp2_with fail
  refine HL.out.mono ?_
  rintro e v0 ⟨rfl, E⟩
  replace HE8 := Lib.hid E
  clear E HL c6 k0 k1 k2 k3 k4 nx3
  have E := HE8.out
  have c6 := HC.out.at E
  have k0 := (ten0 (E.fr.heap HB1.out (fun e => by have e2 : h = h + 1 := e; omega)))
  obtain ⟨k0, k1, k2, k3, k4, _, _, _, _, _⟩ := k0
  have HL := Lib.hid (layS_any (cap := cs) E HC.out (H2.out) (NS.out _ u2) (by have := HLB.out; simp only [List.length_append, putBits_length]; omega))
  clear E
  go_wp2_with fail
  refine HL.out.mono ?_
  rintro e v1 ⟨rfl, E⟩
  replace HE8 := Lib.hid E
  clear E HL c6 k0 k1 k2 k3 k4
  have E := HE8.out
  have c6 := HC.out.at E
  have k0 := (ten0 (E.fr.heap HB1.out (fun e => by have e2 : h = h + 1 := e; omega)))
  obtain ⟨k0, k1, k2, k3, k4, _, _, _, _, _⟩ := k0
  have HL := Lib.hid (lists_any (cap := cp) E H3.out (fun x hx => ⟨(X3.out x hx).1, fun ad e => NT.out _ ((X3.out x hx).2) ad e⟩) (NT.out _ u3) (by have := HLB.out; simp only [List.length_append, putBits_length]; omega))
  clear E
  go_wp2_with fail
  refine HL.out.mono ?_
  rintro e v2 ⟨rfl, E⟩
  replace HE8 := Lib.hid E
  clear E HL c6 k0 k1 k2 k3 k4
  have E := HE8.out
  have c6 := HC.out.at E
  have k0 := (ten0 (E.fr.heap HB1.out (fun e => by have e2 : h = h + 1 := e; omega)))
  obtain ⟨k0, k1, k2, k3, k4, _, _, _, _, _⟩ := k0
  have HL := Lib.hid (layP_any (cap := cq) E HC.out (H4.out) (NS.out _ u4) (by have := HLB.out; simp only [List.length_append, putBits_length]; omega))
  clear E
  go_wp2_with fail
  refine HL.out.mono ?_
  rintro e v3 ⟨rfl, E⟩
  replace HE8 := Lib.hid E
  clear E HL c6 k0 k1 k2 k3 k4
  have E := HE8.out
  have c6 := HC.out.at E
  have k0 := (ten0 (E.fr.heap HB1.out (fun e => by have e2 : h = h + 1 := e; omega)))
  obtain ⟨k0, k1, k2, k3, k4, _, _, _, _, _⟩ := k0
  have HL := Lib.hid (lists_any (cap := cr) E H5.out (fun x hx => ⟨(X5.out x hx).1, fun ad e => NT.out _ ((X5.out x hx).2) ad e⟩) (NT.out _ u5) (by have := HLB.out; simp only [List.length_append, putBits_length]; omega))
  clear E
  go_wp2_with fail
  refine HL.out.mono ?_
  rintro e v4 ⟨rfl, E⟩
  replace HE8 := Lib.hid E
  clear E HL c6 k0 k1 k2 k3 k4
  have E := HE8.out
  rw [ilE_map, ilE_map, e3, e5] at E
  have c6 := HC.out.at E
  obtain ⟨_, _, _, _, _, k5, k6, k7, k8, k9⟩ := ten0 (E.fr.heap HB1.out (fun e => by have e2 : h = h + 1 := e; omega))
  have HL := Lib.hid (nums_new E [L.sp, L.mu, L.wa, L.ca, L.st] 16 16 rfl (by simp) (by have := HLC.out; simp only [List.length_append, putBits_length, List.length_cons, List.length_nil]; omega))
  clear E
  go_wp2_with fail
  refine HL.out.mono ?_
  rintro e v9 ⟨rfl, E⟩
  have E9 : EncS (SG (h + 1)) W1 v9 (h + 1) (layBits L) := by unfold layBits; exact E
  have c7 := HC.out.at E9
  have hb9 : (layBits L).length ≤ 1000000 := HLD.out
  have hf9 := E9.fr
  obtain ⟨vv, WW, _, _, _⟩ := E9
  have HBY := Lib.hid (wbytes_any WW (by omega))
  have HF9 : Hid (Fr No w v9) := HF.out.trans hf9 (fun i hi => .inr (by have e2 : i = h + 1 := hi; omega))
  clear E hf9 WW HL c6 k5 k6 k7 k8 k9
  go_wp2_with fail
  refine HBY.out.mono ?_
  rintro e wy ⟨v1, rfl, O1, _, F9⟩
  obtain ⟨A1, c1, rfl, hA1, _, R1⟩ := O1.shape2
  rw [bys_length]
  have HCL := Lib.hid (close_any (c := c1) R1 (by rw [pack_length]; omega))
  have HFA := Lib.hid (HF9.out.trans F9 (fun _ k => k.elim))
  clear O1 R1 HBY hA1 F9 c7
  go_wp2_with fail
  refine HCL.out.mono ?_
  rintro e wz ⟨v2, rfl, O2, N2, FZ⟩
  go_wp2
  go_ret
  exact ⟨v2, rfl, O2, (by show ∀ k, _; exact fun k hk => Nat.le_trans HFA.out.size (N2.out k hk)), HFA.out.trans FZ (fun _ k => k.elim)⟩
end Go.Proofs.Ytfnlimcgoeknjaa
