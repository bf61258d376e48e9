import Derived.Test.YtngjfebndhmlmaaProg
import Derived.Test.YtngjfebndhmlmaaOpn
import Derived.Lib.SmallJoins
namespace Go.Proofs.Ytngjfebndhmlmaa
open Go.RowKit Go Go.ChangeShapes Go.WideShapes Go.Deep Go.Lib

theorem list7 {α : Type} {l : List α} (h : l.length = 7) : ∃ c0 c1 c2 c3 c4 c5 c6, l = [c0, c1, c2, c3, c4, c5, c6] := by
  match l, h with
  | [c0, c1, c2, c3, c4, c5, c6], _ => exact ⟨c0, c1, c2, c3, c4, c5, c6, rfl⟩
theorem array7 {α : Type} {cs : Array α} (h : cs.size = 7) : ∃ c0 c1 c2 c3 c4 c5 c6, cs = #[c0, c1, c2, c3, c4, c5, c6] := by
  obtain ⟨l⟩ := cs
  obtain ⟨c0, c1, c2, c3, c4, c5, c6, rfl⟩ := list7 (show l.length = 7 from h)
  exact ⟨c0, c1, c2, c3, c4, c5, c6, rfl⟩

/-- A struct of seven one-cell fields, by value, opened. -/
theorem open_agg7 {H : Type} {enc : TypeId × Value → H} {P : Program} {w : World} {r : Reach} {b0 : Nat} {t : TypeId} {f0 f1 f2 f3 f4 f5 f6 : Field} {v : Value} {d : DataW H} {p : List MemPlace} (hs : P.underlying t = some (.struct #[f0, f1, f2, f3, f4, f5, f6])) (hone : oneCellFields P #[f0, f1, f2, f3, f4, f5, f6] = true) (hC : P.cellsOf t = 7)
    (hv : Value.okWide P w r b0 t v) (h : DataW.Trod enc P w 0 (fun _ => true) true t v d p) :
    ∃ (v0 v1 v2 v3 v4 v5 v6 : Value) (n : Nat), v = .agg #[v0, v1, v2, v3, v4, v5, v6] ∧ (∃ y, DataW.trod enc P w 0 (fun _ => true) true n f0.type [v0] = some y) ∧ (∃ y, DataW.trod enc P w 0 (fun _ => true) true n f1.type [v1] = some y) ∧ (∃ y, DataW.trod enc P w 0 (fun _ => true) true n f2.type [v2] = some y) ∧
      (∃ y, DataW.trod enc P w 0 (fun _ => true) true n f3.type [v3] = some y) ∧ (∃ y, DataW.trod enc P w 0 (fun _ => true) true n f4.type [v4] = some y) ∧ (∃ y, DataW.trod enc P w 0 (fun _ => true) true n f5.type [v5] = some y) ∧ (∃ y, DataW.trod enc P w 0 (fun _ => true) true n f6.type [v6] = some y) := by
  obtain ⟨cs, rfl, hsz⟩ := okWide_struct hs hv
  obtain ⟨c0, c1, c2, c3, c4, c5, c6, rfl⟩ := array7 (hsz.trans hC)
  obtain ⟨fuel, hf⟩ := h
  obtain ⟨xs, n, _, _, hl, hlen, hx⟩ := DataW.trod_struct hs hf
  obtain ⟨y0, y1, y2, y3, y4, y5, y6, rfl⟩ := list7 (show xs.length = 7 from hlen)
  obtain ⟨o0, k0⟩ := hone_of hone 0 f0 rfl
  obtain ⟨o1, k1⟩ := hone_of hone 1 f1 rfl
  obtain ⟨o2, k2⟩ := hone_of hone 2 f2 rfl
  obtain ⟨o3, k3⟩ := hone_of hone 3 f3 rfl
  obtain ⟨o4, k4⟩ := hone_of hone 4 f4 rfl
  obtain ⟨o5, k5⟩ := hone_of hone 5 f5 rfl
  obtain ⟨o6, k6⟩ := hone_of hone 6 f6 rfl
  exact ⟨c0, c1, c2, c3, c4, c5, c6, n, rfl, ⟨y0, by simpa [Value.cells, o0, k0] using hx 0 f0 rfl⟩, ⟨y1, by simpa [Value.cells, o1, k1] using hx 1 f1 rfl⟩, ⟨y2, by simpa [Value.cells, o2, k2] using hx 2 f2 rfl⟩, ⟨y3, by simpa [Value.cells, o3, k3] using hx 3 f3 rfl⟩, ⟨y4, by simpa [Value.cells, o4, k4] using hx 4 f4 rfl⟩, ⟨y5, by simpa [Value.cells, o5, k5] using hx 5 f5 rfl⟩, ⟨y6, by simpa [Value.cells, o6, k6] using hx 6 f6 rfl⟩⟩

theorem int_of_trod {H : Type} {enc : TypeId × Value → H} {P : Program} {w : World} {t : TypeId} {k : IntKind} {n : Nat} {v : Value} (hu : P.underlying t = some (.int k)) (h : ∃ y, DataW.trod enc P w 0 (fun _ => true) true n t [v] = some y) : ∃ m : Int, v = .int k m ∧ (Lit.int k m).wf = true := by
  obtain ⟨y, hy⟩ := h
  obtain ⟨m, h0, _, h1⟩ := DataW.trod_int hu hy
  exact ⟨m, by simpa using h0, h1⟩
theorem bool_of_trod {H : Type} {enc : TypeId × Value → H} {P : Program} {w : World} {t : TypeId} {n : Nat} {v : Value} (hu : P.underlying t = some .bool) (h : ∃ y, DataW.trod enc P w 0 (fun _ => true) true n t [v] = some y) : ∃ b : Bool, v = .bool b := by
  obtain ⟨y, hy⟩ := h
  obtain ⟨b, h0, _⟩ := DataW.trod_bool hu hy
  exact ⟨b, by simpa using h0⟩

/-- A Say that came in. -/
theorem open_say {H : Type} {enc : TypeId × Value → H} {w : World} {r : Reach} {b0 : Nat} {v : Value} {d : DataW H} {p : List MemPlace} (hv : Value.okWide Try.prog w r b0 29 v) (h : DataW.Trod enc Try.prog w 0 (fun _ => true) true 29 v d p) :
    ∃ (K t0 d0 m0 a0 : Nat) (wh : Bool) (A : Option Addr) (c : Nat) (tl : List UInt8), v = .agg #[.int .u8 (K : Int), .int .u8 (t0 : Int), .int .u8 (d0 : Int), .int .u32 (m0 : Int), .int .u16 (a0 : Int), .bool wh, .slice A tl.length c] ∧ Rd w A (bys tl) := by
  obtain ⟨v0, v1, v2, v3, v4, v5, v6, n, rfl, h0, h1, h2, h3, h4, h5, h6⟩ := open_agg7 Try.underlying29 (by kernel_rfl) (by kernel_rfl) hv h
  obtain ⟨a0, rfl, w0⟩ := int_of_trod Try.underlying5 h0
  obtain ⟨a1, rfl, w1⟩ := int_of_trod Try.underlying5 h1
  obtain ⟨a2, rfl, w2⟩ := int_of_trod Try.underlying5 h2
  obtain ⟨a3, rfl, w3⟩ := int_of_trod Try.underlying26 h3
  obtain ⟨a4, rfl, w4⟩ := int_of_trod Try.underlying27 h4
  obtain ⟨wh, rfl⟩ := bool_of_trod Try.underlying4 h5
  obtain ⟨y6, hy6⟩ := h6
  obtain ⟨A, c, tl, rfl, _, _, hR⟩ := bytes_of_trod Try.underlying22 Try.underlying5 (by kernel_rfl) hy6
  have b0 := wf_u8 w0
  have b1 := wf_u8 w1
  have b2 := wf_u8 w2
  have b3 := wf_u32 w3
  have b4 := wf_u16 w4
  obtain ⟨K, rfl⟩ := Int.eq_ofNat_of_zero_le b0.1
  obtain ⟨t0, rfl⟩ := Int.eq_ofNat_of_zero_le b1.1
  obtain ⟨d0, rfl⟩ := Int.eq_ofNat_of_zero_le b2.1
  obtain ⟨m0, rfl⟩ := Int.eq_ofNat_of_zero_le b3.1
  obtain ⟨a0, rfl⟩ := Int.eq_ofNat_of_zero_le b4.1
  exact ⟨K, t0, d0, m0, a0, wh, A, c, tl, rfl, hR⟩
end Go.Proofs.Ytngjfebndhmlmaa
