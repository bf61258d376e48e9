import Derived.Test.YtfnlimcgoeknjaaDraX
import Derived.Test.YtfnlimcgoeknjaaEncT
import Derived.Deep.AppendLies
namespace Go.Proofs.Ytfnlimcgoeknjaa
open Go.RowKit Go Fl

theorem ten0' {w : World} {g : Nat} {t : TypeId} {c0 c1 c2 c3 c4 c5 c6 c7 c8 c9 : Value} (h : w.heap[g]? = some (.cells #[c0, c1, c2, c3, c4, c5, c6, c7, c8, c9] t (0, 0))) :
    w.cell? ⟨g, 0, none⟩ = some c0 ∧ w.cell? ⟨g, 1, none⟩ = some c1 ∧ w.cell? ⟨g, 2, none⟩ = some c2 ∧ w.cell? ⟨g, 3, none⟩ = some c3 := by
  refine ⟨?_, ?_, ?_, ?_⟩ <;> (rw [blk_cell h]; rfl)
def SG' (g : Nat) : Nat → Prop := fun k => k = g
def endc (e : Nat × Nat) : List Value := [.int .i64 (e.1 : Int), .int .i64 (e.2 : Int)]
/-- Behind Make's switch: the ends; nodes and points in the layout's block. -/
def MkCut (f u g : Nat) (W3 : World) (s : Value) (wc : World) : Prop :=
  ∃ Ae ce An cn Aq cq, s = .slice Ae (mkEnds f).length ce ∧ RdK wc Ae 2 (mkEnds f).length ((mkEnds f).flatMap endc) ∧ (∀ ad, Ae = some ad → ad.block ≠ g) ∧
    wc.heap[g]? = some (.cells #[.slice An (mkNodes f u).length cn, .slice none 0 0, .slice none 0 0, .slice Aq (mkPoints f).length cq, .slice none 0 0, .int .i64 0, .int .i64 0, .int .i64 0, .int .i64 0, .int .i64 0] 38 (0, 0)) ∧
    RdN W3.heap.size wc An 1 (mkNodes f u).length ((mkNodes f u).flatMap cx1) ∧ RdN W3.heap.size wc Aq 4 (mkPoints f).length ((mkPoints f).flatMap poi) ∧ Fr (SG' g) W3 wc ∧ Up wc An ∧ Up wc Aq ∧ OwnK wc 45 1 (.slice An (mkNodes f u).length cn) (mkNodes f u).length ((mkNodes f u).flatMap cx1) ∧ ∀ ad ad', An = some ad → Aq = some ad' → ad'.block ≠ ad.block
theorem lit_rdk {w : World} {b k n : Nat} {cs : List Value} {t : TypeId} {fr : Nat × Nat} (h : w.heap[b]? = some (.cells cs.toArray t fr)) (hl : cs.length = n * k) (hn : n ≤ 9223372036854775807) : RdK w (some ⟨b, 0, none⟩) k n cs :=
  ⟨hl, hn, fun j hj => ⟨_, rfl, by
    rw [addr_add0, blk_cell h]
    have hj' : j < cs.length := by omega
    simp [List.getD_eq_getElem?_getD, hj']⟩⟩
theorem lit_own {w : World} {b k n : Nat} {cs : Array Value} {t : TypeId} (h : w.heap[b]? = some (.cells cs t (0, 0))) (hl : cs.size = n * k) (hn : n ≤ maxLen) : OwnK w t k (.slice (some ⟨b, 0, none⟩) n n) n cs.toList := by
  refine ⟨by simpa using hl, .inr ⟨b, n, cs, rfl, Nat.zero_le _, h, Nat.le_refl _, hn, hl, ?_⟩⟩
  rw [List.take_of_length_le]
  rw [Array.length_toList, hl]
  exact Nat.le_refl _
/-- The nodes' row is this layout's own: no other row of it lies in that block. -/
def OwnN (b : Nat) (w : World) (L : Lay) (C : Array Value) : Prop := ∃ b1 An cn As cs Ap cp Aq cq Ar cr Mp Mr, (b ≤ b1 ∧ b1 ≤ w.heap.size) ∧ C = lcs An L.no.length cn As L.se.length cs Ap (List.length Mp) cp Aq L.po.length cq Ar (List.length Mr) cr L.sp L.mu L.wa L.ca L.st ∧
  (OwnK w 45 1 (.slice An L.no.length cn) L.no.length (L.no.flatMap cx1) ∧ ∀ ad, An = some ad → b ≤ ad.block ∧ ad.block < b1) ∧ RdN b1 w As 3 L.se.length (L.se.flatMap sei) ∧ (Rd2 b1 w Ap Mp ∧ Mp.map (fun x => x.2.2) = L.pa) ∧ (RdN b w Aq 4 L.po.length (L.po.flatMap poi) ∧ ∀ ad ad', An = some ad → Aq = some ad' → ad'.block ≠ ad.block) ∧ Rd2 b1 w Ar Mr ∧ Mr.map (fun x => x.2.2) = L.ro
theorem mkCut_lit {f u g : Nat} {W3 : World} (hb : W3.heap[g]? = some (.cells #[.slice none 0 0, .slice none 0 0, .slice none 0 0, .slice none 0 0, .slice none 0 0, .int .i64 0, .int .i64 0, .int .i64 0, .int .i64 0, .int .i64 0] 38 (0, 0))) (N E Q : Array Value) (te tq : TypeId) (nn ne nq : Nat)
    (h1 : nn = (mkNodes f u).length) (h2 : ne = (mkEnds f).length) (h3 : nq = (mkPoints f).length) (hN : N.toList = (mkNodes f u).flatMap cx1) (hE : E.toList = (mkEnds f).flatMap endc) (hQ : Q.toList = (mkPoints f).flatMap poi)
    (kN : N.size = nn) (kE : E.size = ne * 2) (kQ : Q.size = nq * 4) (hs : nn ≤ 100 ∧ ne ≤ 100 ∧ nq ≤ 100) :
    MkCut f u g W3 (.slice (some ⟨W3.heap.size + 1, 0, none⟩) ne ne) (((((W3.setCell ⟨g, 0, none⟩ (.slice (some ⟨W3.heap.size, 0, none⟩) nn nn)).setCell ⟨g, 3, none⟩ (.slice (some ⟨W3.heap.size + 1 + 1, 0, none⟩) nq nq)).alloc (.cells N 45)).alloc (.cells E te)).alloc (.cells Q tq)) := by
  have gl := blk_lt hb
  obtain ⟨A, hA⟩ : ∃ A, (W3.setCell ⟨g, 0, none⟩ (.slice (some ⟨W3.heap.size, 0, none⟩) nn nn)).setCell ⟨g, 3, none⟩ (.slice (some ⟨W3.heap.size + 1 + 1, 0, none⟩) nq nq) = A := ⟨_, rfl⟩
  have bA : A.heap[g]? = some (.cells #[.slice (some ⟨W3.heap.size, 0, none⟩) nn nn, .slice none 0 0, .slice none 0 0, .slice (some ⟨W3.heap.size + 1 + 1, 0, none⟩) nq nq, .slice none 0 0, .int .i64 0, .int .i64 0, .int .i64 0, .int .i64 0, .int .i64 0] 38 (0, 0)) := by
    rw [← hA]; exact blk_set (blk_set hb 0 _) 3 _
  have sA : A.heap.size = W3.heap.size := by rw [← hA]; simp
  have fA : Fr (SG' g) W3 A := by
    rw [← hA]
    exact ((Fr.refl (SG' g) W3).setCell (p := ⟨g, 0, none⟩) (.inl rfl) _).setCell (p := ⟨g, 3, none⟩) (.inl rfl) _
  rw [hA]
  have eN := blk_new A (.cells N 45)
  have sN : (A.alloc (.cells N 45)).heap.size = A.heap.size + 1 := by simp
  have eE := blk_new (A.alloc (.cells N 45)) (.cells E te)
  have sE : ((A.alloc (.cells N 45)).alloc (.cells E te)).heap.size = A.heap.size + 2 := by simp
  have eQ := blk_new ((A.alloc (.cells N 45)).alloc (.cells E te)) (.cells Q tq)
  have eN' := blk_alloc (blk_alloc eN (.cells E te)) (.cells Q tq)
  have eE' := blk_alloc eE (.cells Q tq)
  rw [sN] at eE'
  rw [sE] at eQ
  rw [sA] at eN' eE' eQ
  have eW := blk_alloc (blk_alloc (blk_alloc bA (.cells N 45)) (.cells E te)) (.cells Q tq)
  have fW := ((fA.alloc (.cells N 45)).alloc (.cells E te)).alloc (.cells Q tq)
  obtain ⟨W, hW⟩ : ∃ W, ((A.alloc (.cells N 45)).alloc (.cells E te)).alloc (.cells Q tq) = W := ⟨_, rfl⟩
  rw [hW] at eN' eE' eQ eW fW ⊢
  have RE : RdK W (some ⟨W3.heap.size + 1, 0, none⟩) 2 ne E.toList := lit_rdk eE' (by simpa using kE) (by omega)
  have RN : RdK W (some ⟨W3.heap.size, 0, none⟩) 1 nn N.toList := lit_rdk eN' (by simpa using kN) (by omega)
  have RQ : RdK W (some ⟨W3.heap.size + 1 + 1, 0, none⟩) 4 nq Q.toList := lit_rdk eQ (by simpa using kQ) (by omega)
  have ON : OwnK W 45 1 (.slice (some ⟨W3.heap.size, 0, none⟩) nn nn) nn N.toList := lit_own eN' (by omega) (by simp only [maxLen]; omega)
  rw [hE] at RE
  rw [hN] at RN ON
  rw [hQ] at RQ
  subst h1 h2 h3
  exact ⟨_, _, _, _, _, _, rfl, RE, fun ad e => by cases e; show W3.heap.size + 1 ≠ g; omega, eW, ⟨RN, fun ad e => by cases e; exact Nat.le_refl _⟩, ⟨RQ, fun ad e => by cases e; show W3.heap.size ≤ W3.heap.size + 1 + 1; omega⟩, fW, fun ad e => by cases e; exact blk_lt eN', fun ad e => by cases e; exact blk_lt eQ, ON, fun ad ad' e e' => by cases e; cases e'; show W3.heap.size + 1 + 1 ≠ W3.heap.size; omega⟩

theorem Up.fr {S : Nat → Prop} {w w1 : World} {A : Option Addr} (h : Up w A) (f : Fr S w w1) : Up w1 A := fun ad e => Nat.lt_of_lt_of_le (h ad e) f.size
theorem RdN.ownU {w0 w : World} {e : TypeId} {k n : Nat} {v : Value} {xs : List Value} (h : OwnK w e k v n xs) (N : New w0 v) : ∃ A c, v = .slice A n c ∧ n ≤ c ∧ (A = none → c = 0) ∧ RdN w0.heap.size w A k n xs ∧ Up w A := by
  obtain ⟨A, c, rfl, h1, h2, h3, h4⟩ := h.shape
  exact ⟨A, c, rfl, h1, h2, ⟨h4, fun ad e => N _ (h3 ad e)⟩, fun ad e => h.lt (h3 ad e)⟩
theorem Rd2.ownU {w0 w : World} {v : Value} {M : IL} (h : Rows2 w0 w v M) : ∃ A c, v = .slice A M.length c ∧ M.length ≤ c ∧ (A = none → c = 0) ∧ Rd2 w0.heap.size w A M ∧ Up w A ∧ ∀ x ∈ M, Up w x.1 := by
  obtain ⟨A, c, rfl, h1, h2, h3, h4⟩ := RdN.ownU h.own h.old
  exact ⟨A, c, rfl, h1, h2, ⟨h3, fun x hx => ⟨(h.rd x hx).1, fun ad e => ((h.rd x hx).2.1 ad e).1, (h.rd x hx).2.2⟩⟩, h4, fun x hx ad e => ((h.rd x hx).2.1 ad e).2.2⟩
/-- A layout in memory, its rows no older than block b, and there. -/
def LayW (b : Nat) (w : World) (L : Lay) (C : Array Value) : Prop :=
  ∃ An cn As cs Ap cp Aq cq Ar cr Mp Mr, C = lcs An L.no.length cn As L.se.length cs Ap (List.length Mp) cp Aq L.po.length cq Ar (List.length Mr) cr L.sp L.mu L.wa L.ca L.st ∧
    (RdN b w An 1 L.no.length (L.no.flatMap cx1) ∧ Up w An) ∧ (RdN b w As 3 L.se.length (L.se.flatMap sei) ∧ Up w As) ∧ (Rd2 b w Ap Mp ∧ (Up w Ap ∧ ∀ x ∈ Mp, Up w x.1) ∧ Mp.map (fun x => x.2.2) = L.pa) ∧ (RdN b w Aq 4 L.po.length (L.po.flatMap poi) ∧ Up w Aq) ∧ Rd2 b w Ar Mr ∧ (Up w Ar ∧ ∀ x ∈ Mr, Up w x.1) ∧ Mr.map (fun x => x.2.2) = L.ro
theorem LayW.v {b : Nat} {w : World} {L : Lay} {C : Array Value} (h : LayW b w L C) : LayV b w L C := by
  obtain ⟨An, cn, As, cs, Ap, cp, Aq, cq, Ar, cr, Mp, Mr, e, ⟨h1, _⟩, ⟨h2, _⟩, ⟨h3, _, e3⟩, ⟨h4, _⟩, h5, _, e5⟩ := h
  exact ⟨An, cn, As, cs, Ap, cp, Aq, cq, Ar, cr, Mp, Mr, e, h1, h2, ⟨h3, e3⟩, h4, h5, e5⟩
theorem LayW.u {b : Nat} {w : World} {L : Lay} {C : Array Value} (h : LayW b w L C) : LayU w L C := by
  obtain ⟨An, cn, As, cs, Ap, cp, Aq, cq, Ar, cr, Mp, Mr, e, ⟨h1, u1⟩, ⟨h2, u2⟩, ⟨h3, u3, e3⟩, ⟨h4, u4⟩, h5, u5, e5⟩ := h
  exact ⟨An, cn, As, cs, Ap, cp, Aq, cq, Ar, cr, Mp, Mr, e, ⟨h1.rd, u1⟩, ⟨h2.rd, u2⟩, ⟨h3.mono (Nat.zero_le _), u3.1, u3.2, e3⟩, ⟨h4.rd, u4⟩, h5.mono (Nat.zero_le _), u5.1, u5.2, e5⟩
theorem Up.no {w w1 : World} {A : Option Addr} (h : Up w A) (f : Fr No w w1) : Up w1 A := h.fr f
theorem LayW.fr {S : Nat → Prop} {b : Nat} {w w1 : World} {L : Lay} {C : Array Value} (h : LayW b w L C) (f : Fr S w w1) (hS : ∀ k, b ≤ k → ¬ S k) : LayW b w1 L C := by
  obtain ⟨An, cn, As, cs, Ap, cp, Aq, cq, Ar, cr, Mp, Mr, e, ⟨h1, u1⟩, ⟨h2, u2⟩, ⟨h3, u3, e3⟩, ⟨h4, u4⟩, h5, u5, e5⟩ := h
  exact ⟨An, cn, As, cs, Ap, cp, Aq, cq, Ar, cr, Mp, Mr, e, ⟨h1.fr f hS, u1.fr f⟩, ⟨h2.fr f hS, u2.fr f⟩, ⟨h3.fr f hS, ⟨u3.1.fr f, fun x hx => (u3.2 x hx).fr f⟩, e3⟩, ⟨h4.fr f hS, u4.fr f⟩, h5.fr f hS, ⟨u5.1.fr f, fun x hx => (u5.2 x hx).fr f⟩, e5⟩
theorem layU_mk {b : Nat} {w : World} {L : Lay} {An As Ap Aq Ar : Option Addr} {cn cs cp cq cr : Nat} {Mp Mr : IL} (h1 : RdN b w An 1 L.no.length (L.no.flatMap cx1)) (u1 : Up w An) (h2 : RdN b w As 3 L.se.length (L.se.flatMap sei)) (u2 : Up w As)
    (h3 : Rd2 b w Ap Mp) (u3 : Up w Ap ∧ ∀ x ∈ Mp, Up w x.1) (e3 : Mp.map (fun x => x.2.2) = L.pa) (h4 : RdN b w Aq 4 L.po.length (L.po.flatMap poi)) (u4 : Up w Aq) (h5 : Rd2 b w Ar Mr) (u5 : Up w Ar ∧ ∀ x ∈ Mr, Up w x.1) (e5 : Mr.map (fun x => x.2.2) = L.ro) :
    LayW b w L (lcs An L.no.length cn As L.se.length cs Ap (List.length Mp) cp Aq L.po.length cq Ar (List.length Mr) cr L.sp L.mu L.wa L.ca L.st) :=
  ⟨An, cn, As, cs, Ap, cp, Aq, cq, Ar, cr, Mp, Mr, rfl, ⟨h1, u1⟩, ⟨h2, u2⟩, ⟨h3, u3, e3⟩, ⟨h4, u4⟩, h5, u5, e5⟩
theorem ownN_mk {b b1 : Nat} {w : World} {L : Lay} {An As Ap Aq Ar : Option Addr} {cn cs cp cq cr : Nat} {Mp Mr : IL} (hb : b ≤ b1 ∧ b1 ≤ w.heap.size) (h1 : OwnK w 45 1 (.slice An L.no.length cn) L.no.length (L.no.flatMap cx1)) (u1 : ∀ ad, An = some ad → b ≤ ad.block ∧ ad.block < b1)
    (h2 : RdN b1 w As 3 L.se.length (L.se.flatMap sei)) (h3 : Rd2 b1 w Ap Mp) (e3 : Mp.map (fun x => x.2.2) = L.pa) (h4 : RdN b w Aq 4 L.po.length (L.po.flatMap poi)) (u4 : ∀ ad ad', An = some ad → Aq = some ad' → ad'.block ≠ ad.block) (h5 : Rd2 b1 w Ar Mr) (e5 : Mr.map (fun x => x.2.2) = L.ro) :
    OwnN b w L (lcs An L.no.length cn As L.se.length cs Ap (List.length Mp) cp Aq L.po.length cq Ar (List.length Mr) cr L.sp L.mu L.wa L.ca L.st) :=
  ⟨b1, An, cn, As, cs, Ap, cp, Aq, cq, Ar, cr, Mp, Mr, hb, rfl, ⟨h1, u1⟩, h2, ⟨h3, e3⟩, ⟨h4, u4⟩, h5, e5⟩
theorem after_app {v v1 : Value} {W w1 wb : World} {g : Nat} {o : Obj} {S : Nat → Prop} (HB : W.heap[g]? = some o) (hg : g < wb.heap.size) (N : New wb v) (F : Fr S wb W)
    (f1 : Fr (fun k => v.ownBlock = some k) W w1) (a1 : v1.ownBlock = v.ownBlock ∨ ∃ b, v1.ownBlock = some b ∧ W.heap.size ≤ b) : w1.heap[g]? = some o ∧ New wb v1 ∧ Fr S wb w1 := by
  refine ⟨f1.heap HB (fun e => by have := N g e; omega), fun q hq => ?_, F.trans f1 (fun i hi => .inr (N i hi))⟩
  rcases a1 with e | ⟨b, e, hb⟩
  · rw [e] at hq; exact N q hq
  · rw [e] at hq; cases hq; exact Nat.le_trans F.size hb
theorem add_at (ad : Addr) (n i : Nat) : ad.add (n + (i + 1)) = ⟨(ad.add n).block, (ad.add n).off + (i + 1), none⟩ := by
  unfold Addr.add
  rw [if_neg (by omega)]
  split <;> simp_all
  omega
theorem ends_at {w : World} {A : Option Addr} {l : List (Nat × Nat)} (h : RdK w A 2 l.length (l.flatMap endc)) {i : Nat} (hi : i < l.length) :
    ∃ ad, A = some ad ∧ w.cell? (ad.add (i * 2)) = some (.int .i64 (l[i].1 : Int)) ∧ w.cell? ⟨(ad.add (i * 2)).block, (ad.add (i * 2)).off + 1, none⟩ = some (.int .i64 (l[i].2 : Int)) := by
  have hc : ∀ r, r < 2 → ∃ ad, A = some ad ∧ w.cell? (ad.add (i * 2 + r)) = some ((endc l[i]).getD r undef) := by
    intro r hr
    obtain ⟨ad, e, hcell⟩ := h.2.2 (i * 2 + r) (by omega)
    exact ⟨ad, e, by rw [hcell, flat_getD endc 2 (fun _ => rfl) l i r hi hr]⟩
  obtain ⟨ad, rfl, c0⟩ := hc 0 (by omega)
  obtain ⟨_, e1, c1⟩ := hc 1 (by omega)
  cases e1
  rw [add_at ad (i * 2) 0] at c1
  exact ⟨ad, rfl, c0, c1⟩
def mkSec (f u k : Nat) : Int × Int × Int := (((2 * u + k % 3 : Nat) : Int), (((mkEnds f).getD k (0, 0)).1 : Int), (((mkEnds f).getD k (0, 0)).2 : Int))
theorem mkSecs_succ (f u k : Nat) (h : k < (mkEnds f).length) : mkSecs f u (k + 1) = mkSecs f u k ++ [mkSec f u k] := by
  unfold mkSecs
  rw [List.take_succ_eq_append_getElem h, List.mapIdx_append]
  congr 1
  have hl : (List.take k (mkEnds f)).length = k := by rw [List.length_take]; omega
  simp only [List.mapIdx_cons, List.mapIdx_nil, hl]
  unfold mkSec
  simp [List.getD_eq_getElem?_getD, h]
theorem mkEnds_le (f : Nat) : (mkEnds f).length ≤ 8 ∧ ∀ e ∈ mkEnds f, e.1 ≤ 100 ∧ e.2 ≤ 100 := by
  unfold mkEnds
  split
  · refine ⟨by simp; omega, fun e he => ?_⟩
    obtain ⟨i, hi, rfl⟩ := List.mem_map.1 he
    have := List.mem_range.1 hi
    constructor <;> dsimp only <;> omega
  · split
    · exact ⟨by decide, by decide⟩
    · split
      · exact ⟨by decide, by decide⟩
      · exact ⟨by decide, by decide⟩
/-- 'append(v, E{..})' onto what the call owns, as one step of a region that draws. -/
theorem step_own_append_k {P : Program} {ops : Array Oper} {o : Oper} {a : Act} {K : Act → World → Prop} {Q : Exit → Act → World → Prop} {E : Prop} {W : World} (hgd : o.guard = none) (s x : Operand) (t e : TypeId) (z : Value) (k bytes : Nat)
    (ho : o.op = .call { callee := .builtin .append, args := #[s, x], argTypes := #[t, t] })
    (ht : P.underlying t = some (.slice e)) (hinfo : (P.info? e).map (fun i => (i.zero, i.size, i.bytes)) = some (some z, k, bytes)) (hz : z.cells.size = k) (hk0 : 0 < k) (hb0 : 0 < bytes)
    (v : Value) (n : Nat) (xs : List Value) (ys : List Value) (b : Nat) (hs : a.eval s = v) (hx : a.eval x = .slice (some ⟨b, 0, none⟩) 1 1) (hlen : ys.length = k) (hy : ∀ j u, ys[j]? = some u → W.cell? ⟨b, j, none⟩ = some u) (h1 : ∀ u ∈ ys, u.oneCell' = true)
    (HO : OwnK W e k v n xs) (hl : (n + 1) * bytes ≤ 140737488355328)
    (h : ∀ v1 w1, OwnK w1 e k v1 (n + 1) (xs ++ ys) → Fr (fun k => v.ownBlock = some k) W w1 → (v1.ownBlock = v.ownBlock ∨ ∃ b, v1.ownBlock = some b ∧ W.heap.size ≤ b) → (∃ A c, v1 = .slice A (n + 1) c) → K (a.put o.dst v1) w1) :
    if Region.wanted o (yielded ops a.tmps) = true then Oper.wp P o a W K Q else E := by
  obtain ⟨i0, hi, hzz⟩ := Option.map_eq_some_iff.1 hinfo
  simp only [Prod.mk.injEq] at hzz
  obtain ⟨hz0, hz1, hz2⟩ := hzz
  have hlen' : n + 1 ≤ 140737488355328 := Nat.le_trans (Nat.le_mul_of_pos_right _ hb0) hl
  refine step_append_lies W hgd s x t ho 0 e i0 z k bytes ht hi hz0 hz1 hz2 hz hk0 v n xs hs HO ⟨b, 0, none⟩ 1 1 ys hx (by simpa using hlen)
    (fun j u hj => by rw [addr_add0]; exact hy j u hj) h1 (by omega) (by simp only [maxLen]; omega) hl (by omega) W.heap.size rfl ?_
  intro g cap w1 hown hg hat hlt
  refine h _ w1 hown (Fr.of_grown hg) ?_ ⟨_, _, rfl⟩
  rcases hat with hat | hat
  · exact .inl (by rw [hat]; rfl)
  · exact .inr ⟨g, rfl, by omega⟩
theorem info2 : (Try.prog.info? 111).map (fun i => (i.zero, i.size, i.bytes)) = some (some (.agg #[.int .i64 0, .int .i64 0]), 2, 16) := by kernel_rfl
def nodC (u k : Nat) : List Value := ((List.range k).map fun i => (((u * i : Nat) : Int), (0 : Int))).flatMap cx1
def endC (k : Nat) : List Value := ((List.range k).map fun i => (i, i + 1)).flatMap endc
theorem nodC_succ (u k : Nat) : nodC u (k + 1) = nodC u k ++ [.complex .f64 (F ((u * k : Nat) : Int)) (F 0)] := by
  unfold nodC; rw [List.range_succ, List.map_append, List.flatMap_append]; rfl
theorem endC_succ (k : Nat) : endC (k + 1) = endC k ++ [.int .i64 (k : Int), .int .i64 ((k : Int) + 1)] := by
  unfold endC; rw [List.range_succ, List.map_append, List.flatMap_append]; rfl


/-! ### The parts -/
theorem joinP_snoc : ∀ (P : List (List Int)) (x : List Int) (i : Int), joinP (P ++ [x]) i = P ++ [x ++ [i]]
  | [], x, i => rfl
  | [y], x, i => rfl
  | y :: z :: P, x, i => by
    show y :: joinP ((z :: P) ++ [x]) i = _
    rw [joinP_snoc (z :: P) x i]
    rfl
theorem joinP_ne (P : List (List Int)) (i : Int) (h : P ≠ []) : joinP P i ≠ [] := by
  match P, h with
  | [x], _ => simp [joinP]
  | x :: y :: P, _ => simp [joinP]
theorem mkParts_ne (j : Nat) : ∀ k, 0 < k → mkParts j k ≠ []
  | 0, h => by omega
  | k + 1, _ => by
    unfold mkParts
    split
    · rename_i h
      exact joinP_ne _ _ (mkParts_ne j k h.1)
    · simp
theorem joinP_length (P : List (List Int)) (i : Int) : (joinP P i).length = P.length := by
  match P with
  | [] => rfl
  | [x] => rfl
  | x :: y :: P => simp [joinP, joinP_length (y :: P) i]
theorem mkParts_len (j : Nat) : ∀ k, (mkParts j k).length ≤ k
  | 0 => by simp [mkParts]
  | k + 1 => by
    have := mkParts_len j k
    unfold mkParts
    split
    · rw [joinP_length]; omega
    · simp; omega
theorem mkParts_el (j : Nat) : ∀ k, ∀ x ∈ mkParts j k, x.length ≤ k
  | 0, x, h => by simp [mkParts] at h
  | k + 1, x, h => by
    unfold mkParts at h
    split at h
    · rename_i hc
      have hne := mkParts_ne j k hc.1
      have e := List.dropLast_concat_getLast hne
      rw [← e, joinP_snoc] at h
      rcases List.mem_append.1 h with h | h
      · exact Nat.le_succ_of_le (mkParts_el j k x (List.dropLast_subset _ h))
      · simp at h; subst h
        have := mkParts_el j k _ (List.getLast_mem hne)
        simp; omega
    · rcases List.mem_append.1 h with h | h
      · exact Nat.le_succ_of_le (mkParts_el j k x h)
      · simp at h; subst h; simp
/-- The last row is this call's own, and lies apart. -/
def Last (w : World) (M : IL) : Prop := ∀ M0 x, M = M0 ++ [x] → Own w 3 (.slice x.1 x.2.2.length x.2.1) (ints .i64 x.2.2) ∧ ∀ y ∈ M0, ∀ ad, y.1 = some ad → ∀ ad', x.1 = some ad' → ad.block ≠ ad'.block
structure Parts (ws w : World) (v : Value) (M : IL) (P : List (List Int)) : Prop where
  rows : Rows2 ws w v M
  last : Last w M
  map : M.map (fun x => x.2.2) = P
theorem Parts.nil (ws w : World) : Parts ws w (.slice none 0 0) [] [] := ⟨Rows2.nil _ _, fun M0 x h => by simp at h, rfl⟩
theorem own_one (w : World) (x : Value) (e : TypeId) : Own (w.alloc (.cells #[x] e)) e (.slice (some ⟨w.heap.size, 0, none⟩) 1 1) [x] := by
  refine ⟨rfl, .inr ⟨w.heap.size, 1, #[x], rfl, Nat.zero_le _, blk_new _ _, Nat.le_refl _, by simp [maxLen], rfl, rfl⟩⟩
theorem Last.fr {S : Nat → Prop} {w w1 : World} {M : IL} (h : Last w M) (f : Fr S w w1) (hS : ∀ x ∈ M, ∀ ad, x.1 = some ad → ¬ S ad.block) : Last w1 M := fun M0 x e => by
  obtain ⟨h1, h2⟩ := h M0 x e
  refine ⟨h1.fr f fun k hk => ?_, h2⟩
  obtain ⟨A, c, l⟩ := x
  cases A with
  | none => simp [Value.ownBlock] at hk
  | some ad =>
    simp [Value.ownBlock] at hk
    subst hk
    exact hS (some ad, c, l) (by rw [e]; simp) ad rfl
theorem Parts.fr {S : Nat → Prop} {ws w w1 : World} {v : Value} {M : IL} {P : List (List Int)} (h : Parts ws w v M P) (f : Fr S w w1) (hS : ∀ k, ws.heap.size ≤ k → ¬ S k) : Parts ws w1 v M P :=
  ⟨h.rows.fr f hS, h.last.fr f fun x hx ad e => hS _ ((h.rows.rd x hx).2.1 ad e).1, h.map⟩
/-- A part begun. -/
theorem Parts.begin {ws w w1 : World} {v v1 : Value} {M : IL} {P : List (List Int)} {i : Int} (h : Parts ws w v M P) (hw : ws.heap.size ≤ w.heap.size)
    (o : OwnK w1 49 1 v1 (M.length + 1) (ilv M ++ [.slice (some ⟨w.heap.size, 0, none⟩) 1 1])) (f : Fr (fun k => v.ownBlock = some k) (w.alloc (.cells #[.int .i64 i] 3)) w1)
    (a : v1.ownBlock = v.ownBlock ∨ ∃ b, v1.ownBlock = some b ∧ (w.alloc (.cells #[.int .i64 i] 3)).heap.size ≤ b) : Parts ws w1 v1 (M ++ [(some ⟨w.heap.size, 0, none⟩, 1, [i])]) (P ++ [[i]]) := by
  have hv : v.ownBlock ≠ some w.heap.size := fun e => by have := h.rows.own.lt e; omega
  have hr := h.rows.no (w1 := w.alloc (.cells #[.int .i64 i] 3)) ((Fr.refl No w).alloc _)
  have hs : (w.alloc (.cells #[.int .i64 i] 3)).heap.size = w.heap.size + 1 := by simp
  have oo := own_one w (.int .i64 i) 3
  have ro : Rd (w.alloc (.cells #[.int .i64 i] 3)) (some ⟨w.heap.size, 0, none⟩) (ints .i64 [i]) := by
    obtain ⟨A, c, e, _, _, r⟩ := oo.shape
    cases e
    exact r
  refine ⟨hr.snoc (x := (some ⟨w.heap.size, 0, none⟩, 1, [i])) o f a (by omega) ro (fun ad e => by cases e; exact ⟨hw, hv, by rw [hs]; exact Nat.lt_succ_self _⟩) (fun e => by cases e), fun M0 x e => ?_, by rw [List.map_append, h.map]; rfl⟩
  obtain ⟨rfl, e2⟩ := List.append_inj' e rfl
  simp at e2
  subst e2
  refine ⟨oo.fr f fun k hk => ?_, fun y hy ad ey ad' e' => ?_⟩
  · simp [Value.ownBlock] at hk
    subst hk
    exact hv
  · cases e'
    have := ((h.rows.rd y hy).2.1 ad ey).2.2
    show ad.block ≠ w.heap.size
    omega
theorem Parts.form {ws w : World} {v : Value} {M0 : IL} {x : Option Addr × Nat × List Int} {P : List (List Int)} (h : Parts ws w v (M0 ++ [x]) P) :
    ∃ g c, v = .slice (some ⟨g, 0, none⟩) (M0.length + 1) c ∧ ws.heap.size ≤ g ∧ g < w.heap.size ∧ M0.length + 1 ≤ c ∧ ∀ w1, Fr (fun k => (Value.slice x.1 x.2.2.length x.2.1).ownBlock = some k) w w1 → w1.cell? ⟨g, M0.length, none⟩ = some (.slice x.1 x.2.2.length x.2.1) ∧ w1.frozen? ⟨g, M0.length, none⟩ = false := by
  have ho : Own w 49 v (ilv (M0 ++ [x])) := by
    have := h.rows.own
    unfold Own
    rw [ilv_length]
    exact this
  have hx := h.rows.rd x (by simp)
  obtain ⟨g, c, hv, hc, _, hb, hlt, _⟩ := ho.form (by rw [ilv_length]; simp)
  rw [ilv_length, List.length_append] at hv hc
  refine ⟨g, c, hv, h.rows.old g hb, hlt, hc, fun w1 f => ?_⟩
  have o1 : Own w1 49 v (ilv (M0 ++ [x])) := ho.fr f fun k hk e => by
    cases hA : x.1 with
    | none => rw [hA] at e; simp [Value.ownBlock] at e
    | some ad =>
      rw [hA] at e
      simp [Value.ownBlock] at e
      exact (hx.2.1 ad hA).2.1 (by rw [hk, e])
  obtain ⟨g', c', hv', _, _, hb', _, hfz, hcl, _⟩ := o1.form (by rw [ilv_length]; simp)
  have eg : g' = g := by rw [hb] at hb'; cases hb'; rfl
  subst eg
  refine ⟨?_, hfz _⟩
  rw [hcl M0.length (by rw [ilv_length]; simp)]
  simp [ilv]
/-- A part that goes on: its row turned, and what the parts' row says of it. -/
theorem Parts.join {ws w w1 : World} {v : Value} {M0 : IL} {x : Option Addr × Nat × List Int} {P : List (List Int)} {i : Int} {g c : Nat} {A4 : Option Addr} {c4 : Nat} (h : Parts ws w v (M0 ++ [x]) P)
    (o : Own w1 3 (.slice A4 (x.2.2.length + 1) c4) (ints .i64 x.2.2 ++ [.int .i64 i])) (f : Fr (fun k => (Value.slice x.1 x.2.2.length x.2.1).ownBlock = some k) w w1)
    (a : (Value.slice A4 (x.2.2.length + 1) c4).ownBlock = (Value.slice x.1 x.2.2.length x.2.1).ownBlock ∨ ∃ b, (Value.slice A4 (x.2.2.length + 1) c4).ownBlock = some b ∧ w.heap.size ≤ b)
    (hv : v = .slice (some ⟨g, 0, none⟩) (M0.length + 1) c) : Parts ws (w1.setCell ⟨g, M0.length, none⟩ (.slice A4 (x.2.2.length + 1) c4)) v (M0 ++ [(A4, c4, x.2.2 ++ [i])]) (joinP P i) := by
  have hbv : v.ownBlock = some g := by rw [hv]; rfl
  have hx := h.rows.rd x (by simp)
  have hxg : ∀ ad, x.1 = some ad → ad.block ≠ g := fun ad e e2 => (hx.2.1 ad e).2.1 (by rw [hbv, e2])
  have hxo : ∀ k, (Value.slice x.1 x.2.2.length x.2.1).ownBlock = some k → ∃ ad, x.1 = some ad ∧ ad.block = k := by
    intro k hk
    cases hA : x.1 with
    | none => rw [hA] at hk; simp [Value.ownBlock] at hk
    | some ad => rw [hA] at hk; simp [Value.ownBlock] at hk; exact ⟨ad, rfl, hk⟩
  have gv : g < w.heap.size := h.rows.own.lt hbv
  have gold : ws.heap.size ≤ g := h.rows.old g hbv
  have hA4 : ∀ ad, A4 = some ad → ws.heap.size ≤ ad.block ∧ ad.block ≠ g := by
    intro ad e
    subst e
    rcases a with a | ⟨b, a, hb⟩
    · obtain ⟨ad', e', e2⟩ := hxo ad.block (by rw [← a]; rfl)
      exact ⟨by rw [← e2]; exact (hx.2.1 ad' e').1, by rw [← e2]; exact hxg ad' e'⟩
    · simp [Value.ownBlock] at a
      subst a
      exact ⟨by omega, by omega⟩
  have ov : OwnK w1 49 1 v (M0 ++ [x]).length (ilv (M0 ++ [x])) := h.rows.own.fr f fun k hk e => by
    obtain ⟨ad, e1, e2⟩ := hxo k e
    rw [hbv] at hk
    cases hk
    exact hxg ad e1 e2
  have ov' : Own w1 49 v (ilv (M0 ++ [x])) := by
    unfold Own
    rw [ilv_length]
    exact ov
  obtain ⟨g', c', ev, _, _, eb, _, _, _, hset⟩ := ov'.form (by rw [ilv_length]; simp)
  have eg : g' = g := by rw [hbv] at eb; cases eb; rfl
  subst eg
  have ons := hset M0.length (.slice A4 (x.2.2.length + 1) c4) (by rw [ilv_length]; simp)
  have eset : (ilv (M0 ++ [x])).set M0.length (.slice A4 (x.2.2.length + 1) c4) = ilv (M0 ++ [(A4, c4, x.2.2 ++ [i])]) := by
    simp [ilv]
  rw [eset] at ons
  have fs : Fr (fun k => k = g') w1 (w1.setCell ⟨g', M0.length, none⟩ (.slice A4 (x.2.2.length + 1) c4)) := (Fr.refl (fun k => k = g') w1).setCell (p := ⟨g', M0.length, none⟩) (.inl rfl) _
  have oA : Own (w1.setCell ⟨g', M0.length, none⟩ (.slice A4 (x.2.2.length + 1) c4)) 3 (.slice A4 (x.2.2 ++ [i]).length c4) (ints .i64 (x.2.2 ++ [i])) := by
    have e : ints .i64 (x.2.2 ++ [i]) = ints .i64 x.2.2 ++ [.int .i64 i] := by simp [ints]
    rw [e, List.length_append]
    refine Own.fr (show Own w1 3 _ _ from o) fs fun k hk => ?_
    cases A4 with
    | none => simp [Value.ownBlock] at hk
    | some ad => simp [Value.ownBlock] at hk; subst hk; exact (hA4 ad rfl).2
  have key : ∀ y ∈ M0, Rd (w1.setCell ⟨g', M0.length, none⟩ (.slice A4 (x.2.2.length + 1) c4)) y.1 (ints .i64 y.2.2) ∧ (∀ ad, y.1 = some ad → ws.heap.size ≤ ad.block ∧ v.ownBlock ≠ some ad.block ∧ ad.block < (w1.setCell ⟨g', M0.length, none⟩ (.slice A4 (x.2.2.length + 1) c4)).heap.size) ∧ (y.1 = none → y.2.1 = 0) := by
    intro y hy
    have hy' := h.rows.rd y (List.mem_append_left _ hy)
    refine ⟨(hy'.1.fr f fun ad e e2 => ?_).fr fs fun ad e e2 => ?_, fun ad e => ⟨(hy'.2.1 ad e).1, (hy'.2.1 ad e).2.1, Nat.lt_of_lt_of_le (hy'.2.1 ad e).2.2 (Nat.le_trans f.size fs.size)⟩, hy'.2.2⟩
    · obtain ⟨ad', e1, e3⟩ := hxo _ e2
      exact (h.last M0 x rfl).2 y hy ad e ad' e1 e3.symm
    · exact (hy'.2.1 ad e).2.1 (by rw [hbv]; exact congrArg some e2.symm)
  refine ⟨⟨?_, h.rows.old, fun y hy => ?_⟩, fun M1 z e => ?_, ?_⟩
  · have := ons
    unfold Own at this
    rw [ilv_length] at this
    exact this
  · rcases List.mem_append.1 hy with hy | hy
    · exact key y hy
    · simp at hy
      subst hy
      obtain ⟨A', c', e, _, hh, r⟩ := oA.shape
      injection e with e1 e2 e3
      subst e1 e3
      refine ⟨r, fun ad e => ⟨(hA4 ad e).1, fun e2 => ?_, oA.lt (hh ad e)⟩, fun e => ?_⟩
      · rw [hbv] at e2; cases e2; exact (hA4 ad e).2 rfl
      · obtain ⟨_, _, e4, h5, _⟩ := oA.shape2
        injection e4 with e5 _ e6
        subst e5 e6
        exact h5 e
  · obtain ⟨rfl, e2⟩ := List.append_inj' e rfl
    simp at e2
    subst e2
    refine ⟨oA, fun y hy ad ey ad' e' e3 => ?_⟩
    have hy' := h.rows.rd y (List.mem_append_left _ hy)
    subst e'
    rcases a with a | ⟨b, a, hb⟩
    · obtain ⟨ad2, e4, e5⟩ := hxo ad'.block (by rw [← a]; rfl)
      exact (h.last M0 x rfl).2 y hy ad ey ad2 e4 (by rw [e5, e3])
    · simp [Value.ownBlock] at a
      have := (hy'.2.1 ad ey).2.2
      omega
  · have hm := h.map
    rw [List.map_append] at hm
    rw [List.map_append, ← hm]
    exact (joinP_snoc _ _ _).symm
end Go.Proofs.Ytfnlimcgoeknjaa
