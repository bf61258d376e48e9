import Derived.Test.YtfnlimcgoeknjaaNestL
import Derived.Test.YtfnlimcgoeknjaaLists
namespace Go.Proofs.Ytfnlimcgoeknjaa
open Go.RowKit Go Fl

/-- A layout's fields. -/
structure Lay where
  no : List (Int × Int)
  se : List (Int × Int × Int)
  pa : List (List Int)
  po : List (Int × Int × Int × Int)
  ro : List (List Int)
  sp : Int
  mu : Int
  wa : Int
  ca : Int
  st : Int
def lnone : Lay := ⟨[], [], [], [], [], 0, 0, 0, 0, 0⟩
def sei (x : Int × Int × Int) : List Value := [.int .i64 x.1, .int .i64 x.2.1, .int .i64 x.2.2]
def poi (x : Int × Int × Int × Int) : List Value := [.int .i64 x.1, .int .i64 x.2.1, .int .i64 x.2.2.1, .int .i64 x.2.2.2]
def seI (x : Nat × Nat × Nat) : Int × Int × Int := ((x.1 : Int), (x.2.1 : Int), (x.2.2 : Int))
def poI (x : Nat × Nat × Nat × Nat) : Int × Int × Int × Int := ((x.1 : Int), (x.2.1 : Int), (x.2.2.1 : Int), (x.2.2.2 : Int))
theorem sec_map (l : List (Nat × Nat × Nat)) : l.flatMap sec = (l.map seI).flatMap sei := by rw [List.flatMap_map]; rfl
theorem poc_map (l : List (Nat × Nat × Nat × Nat)) : l.flatMap poc = (l.map poI).flatMap poi := by rw [List.flatMap_map]; rfl

/-- The places: behind the nodes, the sections, the parts, the points, the routes, each number. -/
def q1 (l : List UInt8) : Pl := liS (cxN l) l (0, false)
def q2 (l : List UInt8) : Pl := liS (seN l) l (q1 l)
def q3 (l : List UInt8) : Pl := liS (inN l) l (q2 l)
def q4 (l : List UInt8) : Pl := liS (poN l) l (q3 l)
def q5 (l : List UInt8) : Pl := liS (inN l) l (q4 l)
def q6 (l : List UInt8) : Pl := nx l (q5 l) 16
def q7 (l : List UInt8) : Pl := nx l (q6 l) 16
def q8 (l : List UInt8) : Pl := nx l (q7 l) 16
def q9 (l : List UInt8) : Pl := nx l (q8 l) 16
def qE (l : List UInt8) : Pl := nx l (q9 l) 16
def layOf (l : List UInt8) : Lay := ⟨liL (cxV l) (cxN l) l (0, false), (liL (seV l) (seN l) l (q1 l)).map seI, (liL (inV l) (inN l) l (q2 l)).map nats, (liL (poV l) (poN l) l (q3 l)).map poI, (liL (inV l) (inN l) l (q4 l)).map nats,
  gt l (q5 l) 16, gt l (q6 l) 16, gt l (q7 l) 16, gt l (q8 l) 16, gt l (q9 l) 16⟩
def decL (l : List UInt8) : Lay × Nat := if (qE l).2 = true then (lnone, 4) else if 0 < left l (qE l).1 (qE l).2 then (lnone, 2) else (layOf l, 0)
def decAL (p : List UInt8) : Lay × Int := if code p = 0 then (if (body p).take 2 = [66, 76] then ((decL ((body p).drop 2)).1, ((decL ((body p).drop 2)).2 : Int)) else (lnone, 2)) else (lnone, code p)
theorem stop_ok {f : Pl → Pl} (hf : Stops f) {s : Pl} (h : (f s).2 = false) : s.2 = false := by
  cases h2 : s.2 with
  | false => rfl
  | true => rw [hf s h2, h2] at h; cases h
theorem nx_stops (l : List UInt8) (m : Nat) : Stops (fun s => nx l s m) := fun _ h => nx_stop h m
theorem all_ok (l : List UInt8) (h : (qE l).2 = false) : ((q1 l).2 = false ∧ (q2 l).2 = false ∧ (q3 l).2 = false) ∧ (q4 l).2 = false ∧ (q5 l).2 = false := by
  have h9 := stop_ok (nx_stops l 16) (s := q9 l) h
  have h8 := stop_ok (nx_stops l 16) (s := q8 l) h9
  have h7 := stop_ok (nx_stops l 16) (s := q7 l) h8
  have h6 := stop_ok (nx_stops l 16) (s := q6 l) h7
  have h5 := stop_ok (nx_stops l 16) (s := q5 l) h6
  have h4 := stop_ok (liS_stops (inN_stops l) l) (s := q4 l) h5
  have h3 := stop_ok (liS_stops (poN_stops l) l) (s := q3 l) h4
  have h2 := stop_ok (liS_stops (inN_stops l) l) (s := q2 l) h3
  have h1 := stop_ok (liS_stops (seN_stops l) l) (s := q1 l) h2
  exact ⟨⟨h1, h2, h3⟩, h4, h5⟩

/-! ### A layout in memory -/
def Lo (b : Nat) (A : Option Addr) : Prop := ∀ ad, A = some ad → b ≤ ad.block
theorem Lo.mono {b c : Nat} {A : Option Addr} (h : Lo b A) (hc : c ≤ b) : Lo c A := fun ad e => Nat.le_trans hc (h ad e)
structure RdN (b : Nat) (w : World) (A : Option Addr) (k n : Nat) (xs : List Value) : Prop where
  rd : RdK w A k n xs
  lo : Lo b A
theorem RdN.fr {S : Nat → Prop} {b : Nat} {w w1 : World} {A : Option Addr} {k n : Nat} {xs : List Value} (h : RdN b w A k n xs) (f : Fr S w w1) (hS : ∀ k, b ≤ k → ¬ S k) : RdN b w1 A k n xs :=
  ⟨h.rd.fr f fun ad e => hS _ (h.lo ad e), h.lo⟩
theorem RdN.mono {b c : Nat} {w : World} {A : Option Addr} {k n : Nat} {xs : List Value} (h : RdN b w A k n xs) (hc : c ≤ b) : RdN c w A k n xs := ⟨h.rd, h.lo.mono hc⟩
theorem RdN.nil (b : Nat) (w : World) (k : Nat) : RdN b w none k 0 [] := ⟨RdK.nil _ _ _, fun _ e => by cases e⟩
theorem RdN.own {w0 w : World} {e : TypeId} {k n : Nat} {v : Value} {xs : List Value} (h : OwnK w e k v n xs) (N : New w0 v) : ∃ A c, v = .slice A n c ∧ n ≤ c ∧ (A = none → c = 0) ∧ RdN w0.heap.size w A k n xs := by
  obtain ⟨A, c, rfl, h1, h2, h3, h4⟩ := h.shape
  exact ⟨A, c, rfl, h1, h2, h4, fun ad e => N _ (h3 ad e)⟩
structure Rd2 (b : Nat) (w : World) (A : Option Addr) (M : IL) : Prop where
  row : RdN b w A 1 M.length (ilv M)
  each : ∀ x ∈ M, Rd w x.1 (ints .i64 x.2.2) ∧ Lo b x.1 ∧ (x.1 = none → x.2.1 = 0)
theorem Rd2.fr {S : Nat → Prop} {b : Nat} {w w1 : World} {A : Option Addr} {M : IL} (h : Rd2 b w A M) (f : Fr S w w1) (hS : ∀ k, b ≤ k → ¬ S k) : Rd2 b w1 A M :=
  ⟨h.row.fr f hS, fun x hx => ⟨(h.each x hx).1.fr f fun ad e => hS _ ((h.each x hx).2.1 ad e), (h.each x hx).2⟩⟩
theorem Rd2.mono {b c : Nat} {w : World} {A : Option Addr} {M : IL} (h : Rd2 b w A M) (hc : c ≤ b) : Rd2 c w A M := ⟨h.row.mono hc, fun x hx => ⟨(h.each x hx).1, (h.each x hx).2.1.mono hc, (h.each x hx).2.2⟩⟩
theorem Rd2.nil (b : Nat) (w : World) : Rd2 b w none [] := ⟨RdN.nil _ _ _, by simp⟩
theorem Rd2.own {w0 w : World} {v : Value} {M : IL} (h : Rows2 w0 w v M) : ∃ A c, v = .slice A M.length c ∧ M.length ≤ c ∧ (A = none → c = 0) ∧ Rd2 w0.heap.size w A M := by
  obtain ⟨A, c, rfl, h1, h2, h3⟩ := RdN.own h.own h.old
  exact ⟨A, c, rfl, h1, h2, h3, fun x hx => ⟨(h.rd x hx).1, fun ad e => ((h.rd x hx).2.1 ad e).1, (h.rd x hx).2.2⟩⟩
def lcs (An : Option Addr) (nn cn : Nat) (As : Option Addr) (ns cs : Nat) (Ap : Option Addr) (np cp : Nat) (Aq : Option Addr) (nq cq : Nat) (Ar : Option Addr) (nr cr : Nat) (a b c d e : Int) : Array Value :=
  #[.slice An nn cn, .slice As ns cs, .slice Ap np cp, .slice Aq nq cq, .slice Ar nr cr, .int .i64 a, .int .i64 b, .int .i64 c, .int .i64 d, .int .i64 e]
def LayV (b : Nat) (w : World) (L : Lay) (C : Array Value) : Prop :=
  ∃ An cn As cs Ap cp Aq cq Ar cr Mp Mr, C = lcs An L.no.length cn As L.se.length cs Ap (List.length Mp) cp Aq L.po.length cq Ar (List.length Mr) cr L.sp L.mu L.wa L.ca L.st ∧
    RdN b w An 1 L.no.length (L.no.flatMap cx1) ∧ RdN b w As 3 L.se.length (L.se.flatMap sei) ∧ (Rd2 b w Ap Mp ∧ Mp.map (fun x => x.2.2) = L.pa) ∧ RdN b w Aq 4 L.po.length (L.po.flatMap poi) ∧ Rd2 b w Ar Mr ∧ Mr.map (fun x => x.2.2) = L.ro
theorem LayV.fr {S : Nat → Prop} {b : Nat} {w w1 : World} {L : Lay} {C : Array Value} (h : LayV b w L C) (f : Fr S w w1) (hS : ∀ k, b ≤ k → ¬ S k) : LayV b w1 L C := by
  obtain ⟨An, cn, As, cs, Ap, cp, Aq, cq, Ar, cr, Mp, Mr, h0, h1, h2, ⟨h3, h4⟩, h5, h6, h7⟩ := h
  exact ⟨An, cn, As, cs, Ap, cp, Aq, cq, Ar, cr, Mp, Mr, h0, h1.fr f hS, h2.fr f hS, ⟨h3.fr f hS, h4⟩, h5.fr f hS, h6.fr f hS, h7⟩
theorem LayV.mono {b c : Nat} {w : World} {L : Lay} {C : Array Value} (h : LayV b w L C) (hc : c ≤ b) : LayV c w L C := by
  obtain ⟨An, cn, As, cs, Ap, cp, Aq, cq, Ar, cr, Mp, Mr, h0, h1, h2, ⟨h3, h4⟩, h5, h6, h7⟩ := h
  exact ⟨An, cn, As, cs, Ap, cp, Aq, cq, Ar, cr, Mp, Mr, h0, h1.mono hc, h2.mono hc, ⟨h3.mono hc, h4⟩, h5.mono hc, h6.mono hc, h7⟩
theorem LayV.mk5 {b : Nat} {w : World} {A1 A2 A3 A4 A5 : Option Addr} {c1 c2 c3 c4 c5 : Nat} {x1 : List (Int × Int)} {x2 : List (Nat × Nat × Nat)} {M3 M5 : IL} {x4 : List (Nat × Nat × Nat × Nat)} (P1 : RdN b w A1 1 x1.length (x1.flatMap cx1)) (P2 : RdN b w A2 3 x2.length (x2.flatMap sec)) (P3 : Rd2 b w A3 M3) (P4 : RdN b w A4 4 x4.length (x4.flatMap poc)) (P5 : Rd2 b w A5 M5) (a1 a2 a3 a4 a5 : Int) :
    LayV b w ⟨x1, x2.map seI, M3.map (fun x => x.2.2), x4.map poI, M5.map (fun x => x.2.2), a1, a2, a3, a4, a5⟩ #[.slice A1 x1.length c1, .slice A2 x2.length c2, .slice A3 (List.length M3) c3, .slice A4 x4.length c4, .slice A5 (List.length M5) c5, .int .i64 a1, .int .i64 a2, .int .i64 a3, .int .i64 a4, .int .i64 a5] := by
  rw [sec_map] at P2
  rw [poc_map] at P4
  refine ⟨A1, c1, A2, c2, A3, c3, A4, c4, A5, c5, M3, M5, ?_, P1, by rw [List.length_map]; exact P2, ⟨P3, rfl⟩, by rw [List.length_map]; exact P4, P5, rfl⟩
  simp only [List.length_map]
  rfl
def lz : Array Value := #[.slice none 0 0, .slice none 0 0, .slice none 0 0, .slice none 0 0, .slice none 0 0, .int .i64 0, .int .i64 0, .int .i64 0, .int .i64 0, .int .i64 0]
theorem LayV.zero (b : Nat) (w : World) : LayV b w lnone lz :=
  ⟨none, 0, none, 0, none, 0, none, 0, none, 0, [], [], rfl, RdN.nil _ _ _, RdN.nil _ _ _, ⟨Rd2.nil _ _, rfl⟩, RdN.nil _ _ _, Rd2.nil _ _, rfl⟩
theorem lcs_one (An nn cn As ns cs Ap np cp Aq nq cq Ar nr cr a b c d e) : (lcs An nn cn As ns cs Ap np cp Aq nq cq Ar nr cr a b c d e).all (·.oneCell') = true := by simp [lcs, Value.oneCell']
end Go.Proofs.Ytfnlimcgoeknjaa
