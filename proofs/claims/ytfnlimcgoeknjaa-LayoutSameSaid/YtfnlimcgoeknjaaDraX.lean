import Derived.Test.YtfnlimcgoeknjaaProg
import Derived.Test.YtfnlimcgoeknjaaOpn
import Derived.Lib.SmallJoins
import Derived.Test.YtfnlimcgoeknjaaSameX
import Derived.Test.YtfnlimcgoeknjaaLayM
import Derived.Laws.ComplexQuo
namespace Go.Proofs.Ytfnlimcgoeknjaa
open Go.RowKit Go Go.ChangeShapes Go.WideShapes Go.Deep Go.Lib

theorem list9 {α : Type} {l : List α} (h : l.length = 9) : ∃ c0 c1 c2 c3 c4 c5 c6 c7 c8, l = [c0, c1, c2, c3, c4, c5, c6, c7, c8] := by
  match l, h with
  | [c0, c1, c2, c3, c4, c5, c6, c7, c8], _ => exact ⟨c0, c1, c2, c3, c4, c5, c6, c7, c8, rfl⟩
theorem array9 {α : Type} {cs : Array α} (h : cs.size = 9) : ∃ c0 c1 c2 c3 c4 c5 c6 c7 c8, cs = #[c0, c1, c2, c3, c4, c5, c6, c7, c8] := by
  obtain ⟨l⟩ := cs
  obtain ⟨c0, c1, c2, c3, c4, c5, c6, c7, c8, rfl⟩ := list9 (show l.length = 9 from h)
  exact ⟨c0, c1, c2, c3, c4, c5, c6, c7, c8, rfl⟩

/-- A struct of nine one-cell fields, by value, opened. -/
theorem open_agg9 {H : Type} {enc : TypeId × Value → H} {P : Program} {w : World} {r : Reach} {b0 : Nat} {t : TypeId} {f0 f1 f2 f3 f4 f5 f6 f7 f8 : Field} {v : Value} {d : DataW H} {p : List MemPlace} (hs : P.underlying t = some (.struct #[f0, f1, f2, f3, f4, f5, f6, f7, f8])) (hone : oneCellFields P #[f0, f1, f2, f3, f4, f5, f6, f7, f8] = true) (hC : P.cellsOf t = 9)
    (hv : Value.okWide P w r b0 t v) (h : DataW.Trod enc P w 0 (fun _ => true) true t v d p) :
    ∃ (v0 v1 v2 v3 v4 v5 v6 v7 v8 : Value) (n : Nat), v = .agg #[v0, v1, v2, v3, v4, v5, v6, v7, v8] ∧ (∃ y, DataW.trod enc P w 0 (fun _ => true) true n f0.type [v0] = some y) ∧ (∃ y, DataW.trod enc P w 0 (fun _ => true) true n f1.type [v1] = some y) ∧ (∃ y, DataW.trod enc P w 0 (fun _ => true) true n f2.type [v2] = some y) ∧ (∃ y, DataW.trod enc P w 0 (fun _ => true) true n f3.type [v3] = some y) ∧ (∃ y, DataW.trod enc P w 0 (fun _ => true) true n f4.type [v4] = some y) ∧ (∃ y, DataW.trod enc P w 0 (fun _ => true) true n f5.type [v5] = some y) ∧ (∃ y, DataW.trod enc P w 0 (fun _ => true) true n f6.type [v6] = some y) ∧ (∃ y, DataW.trod enc P w 0 (fun _ => true) true n f7.type [v7] = some y) ∧ (∃ y, DataW.trod enc P w 0 (fun _ => true) true n f8.type [v8] = some y) := by
  obtain ⟨cs, rfl, hsz⟩ := okWide_struct hs hv
  obtain ⟨c0, c1, c2, c3, c4, c5, c6, c7, c8, rfl⟩ := array9 (hsz.trans hC)
  obtain ⟨fuel, hf⟩ := h
  obtain ⟨xs, n, _, _, hl, hlen, hx⟩ := DataW.trod_struct hs hf
  obtain ⟨y0, y1, y2, y3, y4, y5, y6, y7, y8, rfl⟩ := list9 (show xs.length = 9 from hlen)
  obtain ⟨o0, k0⟩ := hone_of hone 0 f0 rfl
  obtain ⟨o1, k1⟩ := hone_of hone 1 f1 rfl
  obtain ⟨o2, k2⟩ := hone_of hone 2 f2 rfl
  obtain ⟨o3, k3⟩ := hone_of hone 3 f3 rfl
  obtain ⟨o4, k4⟩ := hone_of hone 4 f4 rfl
  obtain ⟨o5, k5⟩ := hone_of hone 5 f5 rfl
  obtain ⟨o6, k6⟩ := hone_of hone 6 f6 rfl
  obtain ⟨o7, k7⟩ := hone_of hone 7 f7 rfl
  obtain ⟨o8, k8⟩ := hone_of hone 8 f8 rfl
  exact ⟨c0, c1, c2, c3, c4, c5, c6, c7, c8, n, rfl, ⟨y0, by simpa [Value.cells, o0, k0] using hx 0 f0 rfl⟩, ⟨y1, by simpa [Value.cells, o1, k1] using hx 1 f1 rfl⟩, ⟨y2, by simpa [Value.cells, o2, k2] using hx 2 f2 rfl⟩, ⟨y3, by simpa [Value.cells, o3, k3] using hx 3 f3 rfl⟩, ⟨y4, by simpa [Value.cells, o4, k4] using hx 4 f4 rfl⟩, ⟨y5, by simpa [Value.cells, o5, k5] using hx 5 f5 rfl⟩, ⟨y6, by simpa [Value.cells, o6, k6] using hx 6 f6 rfl⟩, ⟨y7, by simpa [Value.cells, o7, k7] using hx 7 f7 rfl⟩, ⟨y8, by simpa [Value.cells, o8, k8] using hx 8 f8 rfl⟩⟩

theorem int_of_trod {H : Type} {enc : TypeId × Value → H} {P : Program} {w : World} {t : TypeId} {k : IntKind} {n : Nat} {v : Value} (hu : P.underlying t = some (.int k)) (h : ∃ y, DataW.trod enc P w 0 (fun _ => true) true n t [v] = some y) : ∃ m : Int, v = .int k m ∧ (Lit.int k m).wf = true := by
  obtain ⟨y, hy⟩ := h
  obtain ⟨m, h0, _, h1⟩ := DataW.trod_int hu hy
  exact ⟨m, by simpa using h0, h1⟩

/-- A slice of byte slices, off a reading of one cell. -/
theorem bss_of_trod {H : Type} {enc : TypeId × Value → H} {P : Program} {w : World} {t s e : TypeId} {n : Nat} {v : Value} {d : DataW H × List MemPlace} (ht : P.underlying t = some (.slice s)) (hcs : P.cellsOf s = 1) (hs : P.underlying s = some (.slice e)) (he : P.underlying e = some (.int .u8)) (hc : P.cellsOf e = 1)
    (h : DataW.trod enc P w 0 (fun _ => true) true n t [v] = some d) :
    ∃ (A : Option Addr) (c : Nat) (l : BS), v = .slice A l.length c ∧ l.length ≤ c ∧ Rd w A (bss l) ∧ ∀ x ∈ l, x.2.2.length ≤ x.2.1 ∧ (x.1 = none → x.2.1 = 0) ∧ Rd w x.1 (bys x.2.2) := by
  rcases open_slice1 ht hcs h with ⟨hcs', _⟩ | ⟨x, len, c, _, _, _, _, _, hcs', _, _, _, _, _, _⟩
  · simp at hcs'
    subst hcs'
    exact ⟨none, 0, [], rfl, Nat.le_refl _, Rd.nil _ _, by simp⟩
  · simp at hcs'
    subst hcs'
    have hT : DataW.Trod enc P w 0 (fun _ => true) true t (.slice (some x) len c) d.1 d.2 := ⟨n, h⟩
    obtain ⟨l, h1, h2, _, h4, h5⟩ := open_bss ht hcs hs he hc hT
    subst h1
    exact ⟨_, c, l, rfl, h2, h4, h5⟩

/-- A draft's cells. -/
def dcs (f l s m wt c st j : Nat) (A : Option Addr) (n cc : Nat) : Array Value :=
  #[.int .u8 (f : Int), .int .u8 (l : Int), .int .u8 (s : Int), .int .u16 (m : Int), .int .u16 (wt : Int), .int .u8 (c : Int), .int .u8 (st : Int), .int .u8 (j : Int), .slice A n cc]

set_option maxRecDepth 40000 in
/-- A draft that came in. -/
theorem open_draft {H : Type} {enc : TypeId × Value → H} {w : World} {r : Reach} {b0 : Nat} {v : Value} {d : DataW H} {p : List MemPlace} (hv : Value.okWide Try.prog w r b0 30 v) (h : DataW.Trod enc Try.prog w 0 (fun _ => true) true 30 v d p) :
    ∃ (f l s m wt c st j : Nat) (A : Option Addr) (cc : Nat) (R : BS), v = .agg (dcs f l s m wt c st j A R.length cc) ∧ (f < 256 ∧ l < 256 ∧ s < 256 ∧ m < 65536 ∧ wt < 65536 ∧ c < 256 ∧ st < 256 ∧ j < 256) ∧ Rd w A (bss R) ∧ ∀ x ∈ R, x.2.2.length ≤ x.2.1 ∧ (x.1 = none → x.2.1 = 0) ∧ Rd w x.1 (bys x.2.2) := by
  obtain ⟨v0, v1, v2, v3, v4, v5, v6, v7, v8, n, rfl, h0, h1, h2, h3, h4, h5, h6, h7, h8⟩ := open_agg9 Try.underlying30 (by kernel_rfl) (by kernel_rfl) hv h
  obtain ⟨a0, rfl, w0⟩ := int_of_trod Try.underlying5 h0
  obtain ⟨a1, rfl, w1⟩ := int_of_trod Try.underlying5 h1
  obtain ⟨a2, rfl, w2⟩ := int_of_trod Try.underlying5 h2
  obtain ⟨a3, rfl, w3⟩ := int_of_trod Try.underlying27 h3
  obtain ⟨a4, rfl, w4⟩ := int_of_trod Try.underlying27 h4
  obtain ⟨a5, rfl, w5⟩ := int_of_trod Try.underlying5 h5
  obtain ⟨a6, rfl, w6⟩ := int_of_trod Try.underlying5 h6
  obtain ⟨a7, rfl, w7⟩ := int_of_trod Try.underlying5 h7
  obtain ⟨y8, hy8⟩ := h8
  obtain ⟨A, c, R, rfl, _, hR, hx⟩ := bss_of_trod Try.underlying28 (by kernel_rfl) Try.underlying22 Try.underlying5 (by kernel_rfl) hy8
  have b0 := wf_u8 w0
  obtain ⟨a0, rfl⟩ := Int.eq_ofNat_of_zero_le b0.1
  have b1 := wf_u8 w1
  obtain ⟨a1, rfl⟩ := Int.eq_ofNat_of_zero_le b1.1
  have b2 := wf_u8 w2
  obtain ⟨a2, rfl⟩ := Int.eq_ofNat_of_zero_le b2.1
  have b3 := wf_u16 w3
  obtain ⟨a3, rfl⟩ := Int.eq_ofNat_of_zero_le b3.1
  have b4 := wf_u16 w4
  obtain ⟨a4, rfl⟩ := Int.eq_ofNat_of_zero_le b4.1
  have b5 := wf_u8 w5
  obtain ⟨a5, rfl⟩ := Int.eq_ofNat_of_zero_le b5.1
  have b6 := wf_u8 w6
  obtain ⟨a6, rfl⟩ := Int.eq_ofNat_of_zero_le b6.1
  have b7 := wf_u8 w7
  obtain ⟨a7, rfl⟩ := Int.eq_ofNat_of_zero_le b7.1
  exact ⟨a0, a1, a2, a3, a4, a5, a6, a7, A, c, R, rfl, by omega, hR, hx⟩
end Go.Proofs.Ytfnlimcgoeknjaa

namespace Go.Proofs.Ytfnlimcgoeknjaa
open Go.RowKit Go Fl

/-- A draft's routes, as they lie. -/
abbrev Bss (w : World) (A : Option Addr) (R : BS) : Prop := Rd w A (bss R) ∧ ∀ x ∈ R, x.2.2.length ≤ x.2.1 ∧ (x.1 = none → x.2.1 = 0) ∧ Rd w x.1 (bys x.2.2)
theorem Bss.no {w w1 : World} {A : Option Addr} {R : BS} (h : Bss w A R) (f : Fr No w w1) : Bss w1 A R :=
  ⟨h.1.no f, fun x hx => ⟨(h.2 x hx).1, (h.2 x hx).2.1, (h.2 x hx).2.2.no f⟩⟩
theorem nines {w : World} {g : Nat} {t : TypeId} {c0 c1 c2 c3 c4 c5 c6 c7 c8 : Value} (h : w.heap[g]? = some (.cells #[c0, c1, c2, c3, c4, c5, c6, c7, c8] t (0, 0))) :
    w.cell? ⟨g, 0, none⟩ = some c0 ∧ w.cell? ⟨g, 1, none⟩ = some c1 ∧ w.cell? ⟨g, 2, none⟩ = some c2 ∧ w.cell? ⟨g, 3, none⟩ = some c3 ∧ w.cell? ⟨g, 4, none⟩ = some c4 ∧
    w.cell? ⟨g, 5, none⟩ = some c5 ∧ w.cell? ⟨g, 6, none⟩ = some c6 ∧ w.cell? ⟨g, 7, none⟩ = some c7 ∧ w.cell? ⟨g, 8, none⟩ = some c8 := by
  refine ⟨?_, ?_, ?_, ?_, ?_, ?_, ?_, ?_, ?_⟩ <;> (rw [blk_cell h]; rfl)
/-- A draft has not too much. -/
def small (R : BS) : Bool := decide (∀ x ∈ R, x.2.2.length ≤ 10) && decide (R.length ≤ 20)
theorem small_iff (R : BS) : small R = true ↔ (∀ x ∈ R, x.2.2.length ≤ 10) ∧ R.length ≤ 20 := by simp [small]

set_option maxRecDepth 20000 in
set_option maxHeartbeats 8000000 in
theorem rsmall_any {f l s m wt c st j cc : Nat} {A : Option Addr} {R : BS} {w : World} (hR : Bss w A R) :
    Calls Try.prog 13 #[.agg (dcs f l s m wt c st j A R.length cc)] w fun e w' => e = .returned (.bool (small R)) ∧ Fr No w w' := by
  unfold dcs
  obtain ⟨W1, hW1⟩ : ∃ W, w.alloc (.cells #[.int .u8 (f : Int), .int .u8 (l : Int), .int .u8 (s : Int), .int .u16 (m : Int), .int .u16 (wt : Int), .int .u8 (c : Int), .int .u8 (st : Int), .int .u8 (j : Int), .slice A R.length cc] 30) = W := ⟨_, rfl⟩
  have f1 : Fr No w W1 := by rw [← hW1]; exact (Fr.refl No w).alloc _
  have b1 : W1.heap[w.heap.size]? = some (.cells #[.int .u8 (f : Int), .int .u8 (l : Int), .int .u8 (s : Int), .int .u16 (m : Int), .int .u16 (wt : Int), .int .u8 (c : Int), .int .u8 (st : Int), .int .u8 (j : Int), .slice A R.length cc] 30 (0, 0)) := by rw [← hW1]; exact blk_new _ _
  obtain ⟨h, hh⟩ : ∃ h, w.heap.size = h := ⟨_, rfl⟩
  rw [hh] at b1
  have HF := Lib.hid f1
  have HR := Lib.hid (hR.no f1)
  have hsz := hR.1.1
  rw [bss_length] at hsz
  have k8 := (nines b1).2.2.2.2.2.2.2.2
  obtain ⟨n, hn⟩ : ∃ n, R.length = n := ⟨_, rfl⟩
  have HN := Lib.hid hn
  rw [hn] at hsz hW1 k8 ⊢
  clear hR hn f1 b1
  go_enter Try.func13, Try.ntmps13
  go_wp2
  go_loopg [3] n (fun gk i wr => ∃ (k : Nat), k + gk = n ∧ i = .int .i64 (k : Int) ∧ Hid (∀ x ∈ R.take k, x.2.2.length ≤ 10) ∧ wr = W1)
  case atStart => exact ⟨0, by omega, rfl, fun x hx => by simp at hx, rfl⟩
  case round =>
    obtain ⟨k, hk, rfl, HS, rfl⟩ := hrel
    by_cases hlt : k < n
    · have hkl : k < R.length := by rw [HN.out]; exact hlt
      obtain ⟨ad, rfl, cx⟩ := HR.out.1.bs hkl
      have hmem := List.getElem_mem hkl
      have htk := List.take_succ_eq_append_getElem hkl
      obtain ⟨x, hx⟩ : ∃ x, R[k] = x := ⟨_, rfl⟩
      rw [hx] at cx hmem htk
      obtain ⟨x0, x1, x2⟩ := x
      simp only at cx
      have i4 : (k : Int) < (n : Int) := by omega
      have i0 : (0 : Int) ≤ (k : Int) := by omega
      have HM := Lib.hid hmem
      have HT := Lib.hid htk
      clear hx hmem htk
      by_cases h10 : x2.length ≤ 10
      · have i5 : ¬ (10 : Int) < (x2.length : Int) := by omega
        go_wp2
        go_roundg (n - (k + 1))
        case measure => omega
        case rel =>
          refine ⟨k + 1, by omega, by go_num, ?_, rfl⟩
          show ∀ x ∈ R.take (k + 1), x.2.2.length ≤ 10
          rw [HT.out]
          intro x hx
          rcases List.mem_append.1 hx with hx | hx
          · exact HS.out x hx
          · simp at hx; subst hx; exact h10
      · have i5 : (10 : Int) < (x2.length : Int) := by omega
        have hf : small R = false := by
          rw [Bool.eq_false_iff]
          intro h
          exact h10 (((small_iff R).1 h).1 _ HM.out)
        have HQ := Lib.hid hf
        clear hf
        go_wp2
        go_ret
        exact ⟨by rw [HQ.out]; rfl, HF.out⟩
    · obtain rfl : k = n := by omega
      have hall : ∀ x ∈ R, x.2.2.length ≤ 10 := by
        have := HS.out
        rw [← HN.out, List.take_length] at this
        exact this
      have hs : small R = decide ((k : Int) ≤ 20) := by
        unfold small
        rw [decide_eq_true hall, HN.out, Bool.true_and]
        rw [Bool.eq_iff_iff, decide_eq_true_iff, decide_eq_true_iff]
        omega
      have HQ := Lib.hid hs
      clear hall hs
      go_wp2
      go_ret
      exact ⟨by rw [HQ.out]; rfl, HF.out⟩
end Go.Proofs.Ytfnlimcgoeknjaa

namespace Go.Proofs.Ytfnlimcgoeknjaa
open Go.RowKit Go Fl

/-- A draft's unit. -/
def unitN (l : Nat) : Nat := 10 * (1 + l % 20)
theorem unit_has (l : Nat) : ∃ m, m < 20 ∧ unitN l = 10 * (1 + m) := ⟨l % 20, Nat.mod_lt _ (by omega), rfl⟩
theorem cm_all : ∀ k, k < 7 → ∀ m, m < 20 → cMulBits (F ((k : Nat) : Int)) 0 (F ((10 * (1 + m) : Nat) : Int)) 0 = some (F ((k * (10 * (1 + m)) : Nat) : Int), 0) := by decide +kernel
theorem ca_all : ∀ k, k < 5 → ∀ m, m < 20 → cSumBits .add .f64 (F ((k * (10 * (1 + m)) : Nat) : Int)) 0 0 (F ((10 * (1 + m) : Nat) : Int)) = some (F ((k * (10 * (1 + m)) : Nat) : Int), F ((10 * (1 + m) : Nat) : Int)) := by decide +kernel
theorem cs_all : ∀ k, k < 5 → ∀ m, m < 20 → cSumBits .sub .f64 (F ((k * (10 * (1 + m)) : Nat) : Int)) 0 0 (F ((10 * (1 + m) : Nat) : Int)) = some (F ((k * (10 * (1 + m)) : Nat) : Int), F (-((10 * (1 + m) : Nat) : Int))) := by decide +kernel
theorem cq_all : ∀ m, m < 20 → cQuoBits 0 (F ((10 * (1 + m) : Nat) : Int)) (F 2) 0 = some (0, F ((5 * (1 + m) : Nat) : Int)) := by decide +kernel
theorem cah_all : ∀ m, m < 20 → cSumBits .add .f64 (F ((3 * (10 * (1 + m)) : Nat) : Int)) 0 0 (F ((5 * (1 + m) : Nat) : Int)) = some (F ((3 * (10 * (1 + m)) : Nat) : Int), F ((5 * (1 + m) : Nat) : Int)) := by decide +kernel
theorem csh_all : ∀ m, m < 20 → cSumBits .sub .f64 (F ((3 * (10 * (1 + m)) : Nat) : Int)) 0 0 (F ((5 * (1 + m) : Nat) : Int)) = some (F ((3 * (10 * (1 + m)) : Nat) : Int), F (-((5 * (1 + m) : Nat) : Int))) := by decide +kernel

/-- What a draft makes. -/
def mkEnds (f : Nat) : List (Nat × Nat) :=
  if f % 4 = 0 then (List.range (3 + f / 4 % 6)).map fun i => (i, i + 1)
  else if f % 4 = 1 then [(0, 1), (1, 2), (3, 1)]
  else if f % 4 = 2 then [(0, 1), (1, 2), (2, 3), (2, 4), (5, 3), (4, 5), (5, 6), (6, 7)]
  else [(0, 1), (2, 1), (2, 3), (2, 4), (3, 5), (4, 6)]
def mkNodes (f u : Nat) : List (Int × Int) :=
  if f % 4 = 0 then (List.range (4 + f / 4 % 6)).map fun i => (((u * i : Nat) : Int), 0)
  else if f % 4 = 1 then [(0, 0), (u, 0), ((2 * u : Nat), u), ((2 * u : Nat), -u)]
  else if f % 4 = 2 then [(0, 0), (u, 0), ((2 * u : Nat), 0), ((3 * u : Nat), (u / 2 : Nat)), ((3 * u : Nat), -((u / 2 : Nat) : Int)), ((4 * u : Nat), 0), ((5 * u : Nat), 0), ((6 * u : Nat), 0)]
  else [(0, 0), (u, 0), ((2 * u : Nat), 0), ((3 * u : Nat), u), ((3 * u : Nat), -u), ((4 * u : Nat), u), ((4 * u : Nat), -u)]
def mkPoints (f : Nat) : List (Int × Int × Int × Int) :=
  if f % 4 = 0 then []
  else if f % 4 = 1 then [(1, 0, 1, 2)]
  else if f % 4 = 2 then [(2, 1, 2, 3), (5, 6, 4, 5)]
  else [(2, 1, 3, 2)]
/-- Sections off the ends, the first i of them. -/
def mkSecs (f u i : Nat) : List (Int × Int × Int) := ((mkEnds f).take i).mapIdx fun k e => (((2 * u + k % 3 : Nat) : Int), ((e.1 : Nat) : Int), ((e.2 : Nat) : Int))
/-- One number joins the parts. -/
def joinP (P : List (List Int)) (i : Int) : List (List Int) := match P with
  | [] => []
  | [x] => [x ++ [i]]
  | x :: y :: P => x :: joinP (y :: P) i
def mkParts (j : Nat) : Nat → List (List Int)
  | 0 => []
  | i + 1 => if 0 < i ∧ j / 2 ^ (i % 8) % 2 = 1 then joinP (mkParts j i) i else mkParts j i ++ [[(i : Int)]]
def mkL (f l s m wt c st j : Nat) (ro : List (List Int)) : Lay :=
  ⟨mkNodes f (unitN l), mkSecs f (unitN l) (mkEnds f).length, mkParts j (mkEnds f).length, mkPoints f, ro, ((1 + s % (2 * unitN l) : Nat) : Int), ((1 + m % 1000 : Nat) : Int), ((1 + wt % 1000 : Nat) : Int), ((1 + c : Nat) : Int), ((st % 4 : Nat) : Int)⟩
end Go.Proofs.Ytfnlimcgoeknjaa
