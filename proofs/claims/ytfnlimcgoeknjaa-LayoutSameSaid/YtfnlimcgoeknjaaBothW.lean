import Derived.Test.YtfnlimcgoeknjaaRefX
import Derived.Deep.AppendLies
namespace Go.Proofs.Ytfnlimcgoeknjaa
open Go.RowKit Go

/-- The reader and the document's one are at the same place. -/
def Both (l : List UInt8) (at_ : Nat) (f : Bool) (b : List Bool) : Prop := b = if f = true then [] else (ofBytes l).drop at_
theorem bitAt_drop (b : List Bool) (n j : Nat) : bitAt (b.drop n) j = bitAt b (n + j) := by
  simp [bitAt, List.getD_eq_getElem?_getD]
theorem both_left {l : List UInt8} {at_ : Nat} {f : Bool} {b : List Bool} (h : Both l at_ f b) : b.length = left l at_ f := by
  unfold Both at h
  subst h
  unfold left
  cases f <;> simp [ofBytes_length]
theorem both_step {l : List UInt8} {at_ : Nat} {f : Bool} {b : List Bool} (h : Both l at_ f b) (m : Nat) :
    rgot b f m = got l at_ f m ∧ rover b f m = (f || over l at_ f m) ∧ Both l (nextAt l at_ f m) (f || over l at_ f m) (rnext b f m) := by
  have hl := both_left h
  have ho : rover b f m = (f || over l at_ f m) := by unfold rover over; rw [hl]
  unfold Both at h
  cases f
  · have ho' : rover b false m = over l at_ false m := by rw [ho]; rfl
    rw [if_neg (by decide)] at h
    refine ⟨?_, ho, ?_⟩
    · unfold rgot got
      rw [ho']
      split
      · rfl
      · rw [h]; exact num_congr (fun j _ => by rw [bitAt_drop, Nat.zero_add])
    · unfold Both rnext nextAt
      rw [ho']
      cases over l at_ false m
      · simp [h, List.drop_drop]
      · simp
  · have ho' : rover b true m = true := by rw [ho]; rfl
    rw [if_pos rfl] at h
    refine ⟨?_, ho, ?_⟩
    · unfold rgot got
      rw [if_pos ho']
      by_cases hm : over l at_ true m = true
      · rw [if_pos hm]
      · rw [if_neg hm]
        have : m = 0 := by unfold over left at hm; simp at hm; omega
        subst this; rfl
    · unfold Both rnext
      rw [if_pos ho']; simp
theorem both_end {l : List UInt8} {at_ : Nat} {f : Bool} {b : List Bool} (h : Both l at_ f b) : rends b f = ends l at_ f := by
  have hl := both_left h
  unfold Both at h
  unfold rends ends
  cases f
  · rw [if_neg (by decide)] at h
    have hl2 : b.length = 8 * l.length - at_ := by rw [hl]; unfold left; simp
    rw [hl2]
    have e : num (bitAt b) 0 (8 * l.length - at_) = num (bitAt (ofBytes l)) at_ (8 * l.length - at_) := by
      rw [h]; exact num_congr (fun j _ => by rw [bitAt_drop, Nat.zero_add])
    rw [e]
    congr 2
    simp
    omega
  · rfl

/-- A reading place: at which bit, has it failed? -/
abbrev Pl := Nat × Bool
def gt (l : List UInt8) (s : Pl) (m : Nat) : Nat := got l s.1 s.2 m
def nx (l : List UInt8) (s : Pl) (m : Nat) : Pl := (nextAt l s.1 s.2 m, s.2 || over l s.1 s.2 m)
theorem gt_lt (l : List UInt8) (s : Pl) (m : Nat) : gt l s m < 2 ^ m := by
  unfold gt got
  split
  · exact Nat.pow_pos (by omega)
  · exact num_lt _ _ _
/-- n numbers of width m from s on: where that ends, and they. -/
def manyS (l : List UInt8) (s : Pl) (m : Nat) : Nat → Pl
  | 0 => s
  | n + 1 => nx l (manyS l s m n) m
def manyL (l : List UInt8) (s : Pl) (m : Nat) : Nat → List Int
  | 0 => []
  | n + 1 => manyL l s m n ++ [(gt l (manyS l s m n) m : Int)]
theorem manyL_length (l : List UInt8) (s : Pl) (m : Nat) : ∀ n, (manyL l s m n).length = n
  | 0 => rfl
  | n + 1 => by simp [manyL, manyL_length l s m n]
theorem manyL_wf (l : List UInt8) (s : Pl) (m : Nat) : ∀ n, ∀ x ∈ manyL l s m n, 0 ≤ x ∧ x < 2 ^ m
  | 0 => by simp [manyL]
  | n + 1 => by
    intro x hx
    rcases List.mem_append.1 hx with h | h
    · exact manyL_wf l s m n x h
    · simp at h
      subst h
      have := gt_lt l (manyS l s m n) m
      exact ⟨by omega, by exact_mod_cast this⟩

/-- The reader at a place. -/
def RdAt (w : World) (r : Nat) (B : Option Addr) (d : Nat) (l : List UInt8) (s : Pl) : Prop := Rr w r B d l s.1 s.2
theorem RdAt.fr {S : Nat → Prop} {w w1 : World} {r : Nat} {B : Option Addr} {d : Nat} {l : List UInt8} {s : Pl} (h : RdAt w r B d l s) (hf : Fr S w w1) (hg : ¬ S r) (hA : ∀ ad, B = some ad → ¬ S ad.block) : RdAt w1 r B d l s := Rr.fr h hf hg hA
theorem get_at {w : World} {r : Nat} {B : Option Addr} {d : Nat} {l : List UInt8} {s : Pl} (h : RdAt w r B d l s) (width : Int) (m : Nat) (hm : clamp width = m) :
    Calls Try.prog 35 #[.pointer (some ⟨r, 0, none⟩), .int .i64 width] w fun e w' => e = .returned (.int .u64 (gt l s m : Int)) ∧ RdAt w' r B d l (nx l s m) ∧ Fr (RS r) w w' := by
  subst hm
  exact get_any h width
/-- The document's reader at a place; P: where its bits lie. -/
def InAt (w : World) (g : Nat) (P : Nat → Prop) (l : List UInt8) (s : Pl) : Prop := ∃ C c b, InR w g C c b s.2 ∧ Both l s.1 s.2 b ∧ ∀ ad, C = some ad → P ad.block
theorem InAt.fr {S : Nat → Prop} {w w1 : World} {g : Nat} {P : Nat → Prop} {l : List UInt8} {s : Pl} (h : InAt w g P l s) (hf : Fr S w w1) (hg : ¬ S g) (hP : ∀ k, P k → ¬ S k) : InAt w1 g P l s := by
  obtain ⟨C, c, b, h1, h2, h3⟩ := h
  exact ⟨C, c, b, h1.fr hf hg (fun ad e => hP _ (h3 ad e)), h2, h3⟩
theorem InAt.lt {w : World} {g : Nat} {P : Nat → Prop} {l : List UInt8} {s : Pl} (h : InAt w g P l s) : g < w.heap.size := by
  obtain ⟨C, c, b, h1, _⟩ := h
  exact blk_lt h1.blk
theorem iget_at {w : World} {g : Nat} {P : Nat → Prop} {l : List UInt8} {s : Pl} (h : InAt w g P l s) (width : Int) (m : Nat) (hm : clamp width = m) (hwd : -9223372036854775808 ≤ width ∧ width ≤ 9223372036854775807) :
    Calls Try.prog 62 #[.pointer (some ⟨g, 0, none⟩), .int .i64 width] w fun e w' => e = .returned (.int .u64 (gt l s m : Int)) ∧ InAt w' g P l (nx l s m) ∧ Fr (RS g) w w' := by
  subst hm
  obtain ⟨C, c, b, h1, h2, h3⟩ := h
  obtain ⟨e1, e2, e3⟩ := both_step h2 (clamp width)
  refine (inGet_any h1 width hwd).mono ?_
  rintro e w' ⟨rfl, ⟨C', c', k1, k2⟩, F⟩
  refine ⟨by rw [e1]; rfl, ⟨C', c', rnext b s.2 (clamp width), by rw [e2] at k1; exact k1, e3, fun ad e => ?_⟩, F⟩
  obtain ⟨ad', e4, e5⟩ := k2 ad e
  rw [e5]; exact h3 ad' e4
theorem InAt.failed {w : World} {g : Nat} {P : Nat → Prop} {l : List UInt8} {s : Pl} (h : InAt w g P l s) : w.cell? ⟨g, 1, none⟩ = some (.bool s.2) := by
  obtain ⟨C, c, b, h1, _⟩ := h
  rw [blk_cell h1.blk]; rfl

/-- 'append(v, y)' onto what the call owns, as one step of a region that draws. -/
theorem step_own_append {P : Program} {ops : Array Oper} {o : Oper} {a : Act} {K : Act → World → Prop} {Q : Exit → Act → World → Prop} {E : Prop} {W : World} (hgd : o.guard = none) (s x : Operand) (t e : TypeId) (z : Value) (bytes : Nat)
    (ho : o.op = .call { callee := .builtin .append, args := #[s, x], argTypes := #[t, t] })
    (ht : P.underlying t = some (.slice e)) (hinfo : (P.info? e).map (fun i => (i.zero, i.size, i.bytes)) = some (some z, 1, bytes)) (hz : z.cells.size = 1) (hb0 : 0 < bytes)
    (v : Value) (xs : List Value) (y : Value) (b : Nat) (hs : a.eval s = v) (hx : a.eval x = .slice (some ⟨b, 0, none⟩) 1 1) (hy : W.cell? ⟨b, 0, none⟩ = some y) (h1 : y.oneCell' = true)
    (HO : Own W e v xs) (hl : (xs.length + 1) * bytes ≤ 140737488355328)
    (h : ∀ v1 w1, Own w1 e v1 (xs ++ [y]) → Fr (fun k => v.ownBlock = some k) W w1 → (v1.ownBlock = v.ownBlock ∨ ∃ b, v1.ownBlock = some b ∧ W.heap.size ≤ b) → K (a.put o.dst v1) w1) :
    if Region.wanted o (yielded ops a.tmps) = true then Oper.wp P o a W K Q else E := by
  obtain ⟨i0, hi, hzz⟩ := Option.map_eq_some_iff.1 hinfo
  simp only [Prod.mk.injEq] at hzz
  obtain ⟨hz0, hz1, hz2⟩ := hzz
  have hlen : xs.length + 1 ≤ 140737488355328 := Nat.le_trans (Nat.le_mul_of_pos_right _ hb0) hl
  refine step_append_lies W hgd s x t ho 0 e i0 z 1 bytes ht hi hz0 hz1 hz2 hz (by omega) v xs.length xs hs HO ⟨b, 0, none⟩ 1 1 [y] hx rfl
    (fun j u hj => ?_) (by simpa using h1) (by omega) (by simp only [maxLen]; omega) hl (by omega) W.heap.size rfl ?_
  · match j, hj with
    | 0, hj =>
      simp at hj
      subst hj
      rw [addr_add0, hy]
  · intro g cap w1 hown hg hat hlt
    refine h _ w1 (by unfold Own; simpa using hown) (Fr.of_grown hg) ?_
    rcases hat with hat | hat
    · exact .inl (by rw [hat]; rfl)
    · exact .inr ⟨g, rfl, by omega⟩
end Go.Proofs.Ytfnlimcgoeknjaa
