import Derived.Test.YtfnlimcgoeknjaaBothW
import Derived.Test.YtfnlimcgoeknjaaFlX
namespace Go.Proofs.Ytfnlimcgoeknjaa
open Go.RowKit Go Fl

theorem nx_stop {l : List UInt8} {s : Pl} (h : s.2 = true) (m : Nat) : nx l s m = s := by
  obtain ⟨a, f⟩ := s
  obtain rfl : f = true := h
  have hl : left l a true = 0 := by unfold left; simp
  unfold nx nextAt over
  simp only [hl]
  by_cases hm : 0 < m
  · simp [hm]
  · obtain rfl : m = 0 := by omega
    simp
theorem gt_stop {l : List UInt8} {s : Pl} (h : s.2 = true) {m : Nat} (hm : 0 < m) : gt l s m = 0 := by
  obtain ⟨a, f⟩ := s
  obtain rfl : f = true := h
  unfold gt got over left
  simp [hm]

/-- From place to place. -/
def itS (f : Pl → Pl) (s : Pl) : Nat → Pl
  | 0 => s
  | n + 1 => f (itS f s n)
def itL {α : Type} (g : Pl → α) (f : Pl → Pl) (s : Pl) : Nat → List α
  | 0 => []
  | n + 1 => itL g f s n ++ [g (itS f s n)]
theorem itL_length {α : Type} (g : Pl → α) (f : Pl → Pl) (s : Pl) : ∀ n, (itL g f s n).length = n
  | 0 => rfl
  | n + 1 => by simp [itL, itL_length g f s n]
/-- A failure stays. -/
def Stops (f : Pl → Pl) : Prop := ∀ s, s.2 = true → f s = s
theorem itS_stop {f : Pl → Pl} (hf : Stops f) {s : Pl} {k : Nat} (h : (itS f s k).2 = true) : ∀ i, itS f s (k + i) = itS f s k
  | 0 => rfl
  | i + 1 => by
    have h2 := itS_stop hf h i
    show f (itS f s (k + i)) = _
    rw [h2]
    exact hf _ h
theorem itS_stop0 {f : Pl → Pl} (hf : Stops f) {s : Pl} (h : s.2 = true) (n : Nat) : itS f s n = s := by
  have := itS_stop hf (s := s) (k := 0) h n
  rwa [Nat.zero_add] at this
/-- A list: how many, and they. -/
def liS (f : Pl → Pl) (l : List UInt8) (s : Pl) : Pl := itS f (nx l s 8) (gt l s 8)
def liL {α : Type} (g : Pl → α) (f : Pl → Pl) (l : List UInt8) (s : Pl) : List α := itL g f (nx l s 8) (gt l s 8)
theorem liS_stops {f : Pl → Pl} (hf : Stops f) (l : List UInt8) : Stops (liS f l) := fun s h => by
  unfold liS
  rw [nx_stop h]
  exact itS_stop0 hf h _

/-- A part of a place. -/
def sx (n : Nat) : Int := if n < 2147483648 then (n : Int) else (n : Int) - 4294967296
def cxN (l : List UInt8) (s : Pl) : Pl := nx l (nx l s 32) 32
def cxV (l : List UInt8) (s : Pl) : Int × Int := (sx (gt l s 32), sx (gt l (nx l s 32) 32))
def seN (l : List UInt8) (s : Pl) : Pl := nx l (nx l (nx l s 16) 8) 8
def seV (l : List UInt8) (s : Pl) : Nat × Nat × Nat := (gt l s 16, gt l (nx l s 16) 8, gt l (nx l (nx l s 16) 8) 8)
def poN (l : List UInt8) (s : Pl) : Pl := nx l (nx l (nx l (nx l s 8) 8) 8) 8
def poV (l : List UInt8) (s : Pl) : Nat × Nat × Nat × Nat := (gt l s 8, gt l (nx l s 8) 8, gt l (nx l (nx l s 8) 8) 8, gt l (nx l (nx l (nx l s 8) 8) 8) 8)
def tnN (l : List UInt8) (s : Pl) : Pl := nx l s 8
def tnV (l : List UInt8) (s : Pl) : Nat := gt l s 8
def inN (l : List UInt8) : Pl → Pl := liS (tnN l) l
def inV (l : List UInt8) : Pl → List Nat := liL (tnV l) (tnN l) l
theorem cxN_stops (l : List UInt8) : Stops (cxN l) := fun s h => by unfold cxN; rw [nx_stop h, nx_stop h]
theorem seN_stops (l : List UInt8) : Stops (seN l) := fun s h => by unfold seN; rw [nx_stop h, nx_stop h, nx_stop h]
theorem poN_stops (l : List UInt8) : Stops (poN l) := fun s h => by unfold poN; rw [nx_stop h, nx_stop h, nx_stop h, nx_stop h]
theorem tnN_stops (l : List UInt8) : Stops (tnN l) := fun _ h => nx_stop h 8
theorem inN_stops (l : List UInt8) : Stops (inN l) := liS_stops (tnN_stops l) l
def cxc (x : Int × Int) : Value := .complex .f64 (F x.1) (F x.2)
def i64c (n : Nat) : Value := .int .i64 (n : Int)
def sec (x : Nat × Nat × Nat) : List Value := [i64c x.1, i64c x.2.1, i64c x.2.2]
def poc (x : Nat × Nat × Nat × Nat) : List Value := [i64c x.1, i64c x.2.1, i64c x.2.2.1, i64c x.2.2.2]
theorem sx_abs {n : Nat} (h : n < 4294967296) : (sx n).natAbs < 2 ^ 53 := by unfold sx; split <;> omega
theorem sx_wrap {n : Nat} (h : n < 4294967296) : IntKind.i32.wrap (n : Int) = sx n := by
  unfold sx
  rw [IntKind.wrap_i32]
  split <;> omega
end Go.Proofs.Ytfnlimcgoeknjaa
