import Derived.Test.YtfnlimcgoeknjaaLayM
import Derived.Test.YtfnlimcgoeknjaaSameX
namespace Go.Proofs.Ytfnlimcgoeknjaa
open Go.RowKit Go Fl

/-- A writer at block g: its bits so far. Since w1 nothing but the blocks of S has been turned. -/
def EncS (S : Nat → Prop) (w1 w : World) (g : Nat) (b : List Bool) : Prop := ∃ v, Wr w g v b ∧ Fr S w1 w ∧ S g ∧ (∀ k, v.ownBlock = some k → S k ∨ w1.heap.size ≤ k) ∧ g < w1.heap.size
theorem EncS.fr {S : Nat → Prop} {w1 w : World} {g : Nat} {b : List Bool} (h : EncS S w1 w g b) : Fr S w1 w := by
  obtain ⟨_, _, h, _⟩ := h
  exact h
theorem EncS.no {S : Nat → Prop} {w1 w w2 : World} {g : Nat} {b : List Bool} (h : EncS S w1 w g b) (hf : Fr No w w2) : EncS S w1 w2 g b := by
  obtain ⟨v, h1, h2, h3, h4⟩ := h
  exact ⟨v, h1.fr hf (fun k => k) (fun _ _ k => k), h2.trans hf (fun _ k => k.elim), h3, h4⟩
theorem putS {S : Nat → Prop} {w1 w : World} {g : Nat} {b : List Bool} (h : EncS S w1 w g b) (hb : b.length ≤ 549755813888) (N : Nat) (hN : N < 18446744073709551616) (width : Int) (m : Nat) (hm : clamp width = m) :
    Calls Try.prog 43 #[.pointer (some ⟨g, 0, none⟩), .int .u64 (N : Int), .int .i64 width] w fun e w' => e = .returned (.pointer (some ⟨g, 0, none⟩)) ∧ EncS S w1 w' g (b ++ putBits N m) := by
  subst hm
  obtain ⟨v, h1, h2, h3, h4, h5⟩ := h
  refine (put_any h1 hb N hN width).mono ?_
  rintro e w' ⟨rfl, v1, W1, F1, K1⟩
  refine ⟨rfl, v1, W1, h2.trans F1 (fun i hi => ?_), h3, fun k hk => ?_, h5⟩
  · rcases hi with e | e
    · rw [e]; exact .inl h3
    · exact h4 i e
  · rcases K1 with e | ⟨j, e, hj⟩
    · rw [e] at hk; exact h4 k hk
    · rw [e] at hk; cases hk; exact .inr (Nat.le_trans h2.size hj)
/-- Behind a new block: the writer's blocks alone may be turned; and back. -/
theorem EncS.split {S : Nat → Prop} {w1 w : World} {g : Nat} {b : List Bool} (h : EncS S w1 w g b) (o : Obj) : ∃ S' : Nat → Prop, EncS S' (w.alloc o) (w.alloc o) g b ∧ ¬ S' w.heap.size ∧ ∀ w' b', EncS S' (w.alloc o) w' g b' → EncS S w1 w' g b' := by
  obtain ⟨v, h1, h2, h3, h4, h5⟩ := h
  have hg : g < w.heap.size := blk_lt h1.blk
  refine ⟨fun k => k = g ∨ v.ownBlock = some k, ⟨v, h1.fr ((Fr.refl No w).alloc o) (fun k => k) (fun _ _ k => k), Fr.refl _ _, .inl rfl, fun k hk => .inl (.inr hk), by simp; omega⟩, ?_, ?_⟩
  · rintro (e | e)
    · omega
    · have := h1.own.lt e; omega
  · rintro w' b' ⟨v', k1, k2, _, k4, _⟩
    have hs : w1.heap.size ≤ (w.alloc o).heap.size := Nat.le_trans h2.size (by simp)
    refine ⟨v', k1, (h2.trans ((Fr.refl No w).alloc o) (fun _ k => k.elim)).trans k2 (fun i hi => ?_), h3, fun k hk => ?_, h5⟩
    · rcases hi with e | e
      · rw [e]; exact .inl h3
      · exact h4 i e
    · rcases k4 k hk with (e | e) | e
      · rw [e]; exact .inl h3
      · exact h4 k e
      · exact .inr (Nat.le_trans hs e)

theorem EncS.split' {S : Nat → Prop} {w1 w : World} {g : Nat} {b : List Bool} (h : EncS S w1 w g b) (o : Obj) : ∃ S' : Nat → Prop, EncS S' (w.alloc o) (w.alloc o) g b ∧ ¬ S' w.heap.size ∧ (∀ w' b', EncS S' (w.alloc o) w' g b' → EncS S w1 w' g b') ∧ ∀ k, S' k → S k ∨ w1.heap.size ≤ k := by
  obtain ⟨v, h1, h2, h3, h4, h5⟩ := h
  have hg : g < w.heap.size := blk_lt h1.blk
  refine ⟨fun k => k = g ∨ v.ownBlock = some k, ⟨v, h1.fr ((Fr.refl No w).alloc o) (fun k => k) (fun _ _ k => k), Fr.refl _ _, .inl rfl, fun k hk => .inl (.inr hk), by simp; omega⟩, ?_, ?_, ?_⟩
  · rintro (e | e)
    · omega
    · have := h1.own.lt e; omega
  · rintro w' b' ⟨v', k1, k2, _, k4, _⟩
    have hs : w1.heap.size ≤ (w.alloc o).heap.size := Nat.le_trans h2.size (by simp)
    refine ⟨v', k1, (h2.trans ((Fr.refl No w).alloc o) (fun _ k => k.elim)).trans k2 (fun i hi => ?_), h3, fun k hk => ?_, h5⟩
    · rcases hi with e | e
      · rw [e]; exact .inl h3
      · exact h4 i e
    · rcases k4 k hk with (e | e) | e
      · rw [e]; exact .inl h3
      · exact h4 k e
      · exact .inr (Nat.le_trans hs e)
  · rintro k (e | e)
    · rw [e]; exact .inl h3
    · exact h4 k e

/-- Numbers of one width. -/
def numB (m : Nat) (xs : List Int) : List Bool := xs.flatMap fun v => putBits (u64 v) m
theorem numB_length (m : Nat) (xs : List Int) : (numB m xs).length = xs.length * m := by
  unfold numB
  induction xs with
  | nil => simp
  | cons x xs ih => simp only [List.flatMap_cons, List.length_append, putBits_length, ih, List.length_cons, Nat.succ_mul]; omega
theorem numB_snoc (m : Nat) (xs : List Int) (j : Nat) (h : j < xs.length) : numB m (xs.take (j + 1)) = numB m (xs.take j) ++ putBits (u64 (xs.getD j 0)) m := by
  unfold numB
  rw [List.take_add_one, List.flatMap_append, List.getD_eq_getElem?_getD, List.getElem?_eq_getElem h]
  simp

set_option maxRecDepth 20000 in
set_option maxHeartbeats 4000000 in
theorem numbers_any {S : Nat → Prop} {w1 w : World} {g : Nat} {b : List Bool} {A : Option Addr} {c : Nat} {xs : List Int} (h : EncS S w1 w g b) (width : Int) (m : Nat) (hm : clamp width = m) (hR : Rd w1 A (ints .i64 xs)) (hA : ∀ ad, A = some ad → ¬ S ad.block) (hb : b.length + xs.length * m ≤ 549755813888) :
    Calls Try.prog 46 #[.pointer (some ⟨g, 0, none⟩), .int .i64 width, .slice A xs.length c] w fun e w' => e = .returned (.tuple #[]) ∧ EncS S w1 w' g (b ++ numB m xs) := by
  have HE := Lib.hid h
  have HR := Lib.hid hR
  have HA := Lib.hid hA
  have HB := Lib.hid hb
  have hsz := hR.1
  rw [ints_length] at hsz
  obtain ⟨n, hn⟩ : ∃ n, xs.length = n := ⟨_, rfl⟩
  have HN := Lib.hid hn
  rw [hn] at hsz ⊢
  clear h hR hA hb hn
  go_enter Try.func46, Try.ntmps46
  go_wp2
  go_loopg [10] n (fun gk i wr => ∃ k : Nat, k + gk = n ∧ i = .int .i64 (k : Int) ∧ Hid (EncS S w1 wr g (b ++ numB m (xs.take k))))
  case atStart => exact ⟨0, by omega, rfl, Lib.hid (by rw [List.take_zero]; unfold numB; simpa using HE.out)⟩
  case round =>
    obtain ⟨k, hk, rfl, HW⟩ := hrel
    by_cases hlt : k < n
    · obtain ⟨ad, rfl, cx⟩ := (HR.out.fr HW.out.fr HA.out).int (show k < xs.length by rw [HN.out]; exact hlt)
      have hsn := numB_snoc m xs k (by rw [HN.out]; exact hlt)
      obtain ⟨x, hx⟩ : ∃ x, xs.getD k 0 = x := ⟨_, rfl⟩
      rw [hx] at cx hsn
      have hP := putS HW.out (by
        rw [List.length_append, numB_length, List.length_take]
        have h1 := HB.out
        have h2 : min k xs.length * m ≤ xs.length * m := Nat.mul_le_mul_right _ (by omega)
        omega) (u64 x) (u64_lt x) width m hm
      rw [List.append_assoc, ← hsn] at hP
      have i1 : IntKind.u64.wrap x = (u64 x : Int) := u64_wrap x
      have i4 : (k : Int) < (n : Int) := by omega
      have i0 : (0 : Int) ≤ (k : Int) := by omega
      have HP := Lib.hid hP
      clear hP hx hsn
      go_wp2_with fail
      refine HP.out.mono ?_
      rintro e w3 ⟨rfl, H3⟩
      have HH := Lib.hid H3
      clear HP cx i1 H3
      go_wp2
      go_roundg (n - (k + 1))
      case measure => omega
      case rel => exact ⟨k + 1, by omega, by go_num, HH⟩
    · obtain rfl : k = n := by omega
      go_wp2
      go_end0
      exact ⟨rfl, by have := HW.out; rwa [← HN.out, List.take_length] at this⟩
end Go.Proofs.Ytfnlimcgoeknjaa

namespace Go.Proofs.Ytfnlimcgoeknjaa
open Go.RowKit Go Fl

theorem run_imag' (ts : Array TypeId) (t : TypeId) (k : FloatKind) (a b : Nat) (P : Program) (w : World) : (Builtin.imag_ ts t #[.complex k a b]).run P w = .ok (.float k b) w := rfl
theorem run_real' (ts : Array TypeId) (t : TypeId) (k : FloatKind) (a b : Nat) (P : Program) (w : World) : (Builtin.real_ ts t #[.complex k a b]).run P w = .ok (.float k a) w := rfl
attribute [local go_sem] run_imag' run_real'
theorem conv_run {n : Int} (hn : n.natAbs < 2 ^ 53) (w : World) : (convert 46 3 (.float .f64 (F n))).run Try.prog w = .ok (.int .i64 n) w :=
  run_convert_float_int w _ _ _ _ _ _ (by rw [Try.underlying46]; rfl) Try.underlying3 (toIntI (isF n) hn)
theorem rd_row (w : World) (l : List Int) (t : TypeId) (h : l.length ≤ 9223372036854775807) : Rd (w.alloc (.cells (ints .i64 l).toArray t)) (some ⟨w.heap.size, 0, none⟩) (ints .i64 l) :=
  ⟨by rw [ints_length]; exact h, fun j hj => ⟨_, rfl, by rw [addr_add0, blk_cell (blk_new _ _)]; simp [List.getD_eq_getElem?_getD, List.getElem?_eq_getElem hj]⟩⟩
/-- The captured variable that holds the writer. -/
def CapS (S : Nat → Prop) (w1 : World) (c g : Nat) : Prop := w1.cell? ⟨c, 0, none⟩ = some (.pointer (some ⟨g, 0, none⟩)) ∧ ¬ S c
theorem CapS.at {S : Nat → Prop} {w1 w : World} {c g : Nat} {b : List Bool} (h : CapS S w1 c g) (e : EncS S w1 w g b) : w.cell? ⟨c, 0, none⟩ = some (.pointer (some ⟨g, 0, none⟩)) := e.fr.cell h.1 h.2
/-- 'numbers(w, width, x ..)' of a row of its own. -/
theorem nums_new {S : Nat → Prop} {w1 w : World} {g : Nat} {b : List Bool} (h : EncS S w1 w g b) (xs : List Int) (width : Int) (m : Nat) (hm : clamp width = m) (hl : xs.length ≤ 1000) (hb : b.length + xs.length * m ≤ 549755813888) :
    Calls Try.prog 46 #[.pointer (some ⟨g, 0, none⟩), .int .i64 width, .slice (some ⟨w.heap.size, 0, none⟩) xs.length xs.length] (w.alloc (.cells (ints .i64 xs).toArray 3)) fun e w' => e = .returned (.tuple #[]) ∧ EncS S w1 w' g (b ++ numB m xs) := by
  obtain ⟨S', E0, hx, back⟩ := h.split (.cells (ints .i64 xs).toArray 3)
  exact (numbers_any E0 width m hm (rd_row w xs _ (by omega)) (fun ad e => by cases e; exact hx) hb).mono fun _ _ ⟨h1, h2⟩ => ⟨h1, back _ _ h2⟩

def noE (x : Int × Int) : List Bool := numB 32 [x.1, x.2]
def seE (x : Int × Int × Int) : List Bool := numB 16 [x.1] ++ numB 8 [x.2.1, x.2.2]
def poE (x : Int × Int × Int × Int) : List Bool := numB 8 [x.1, x.2.1, x.2.2.1, x.2.2.2]
def inE (x : Int) : List Bool := numB 8 [x]
/-- A list: how many, and each. -/
def layB {α : Type} (e : α → List Bool) (l : List α) : List Bool := putBits l.length 8 ++ l.flatMap e
def roE (x : List Int) : List Bool := layB inE x
theorem flat_snoc {α : Type} (e : α → List Bool) (l : List α) (k : Nat) (h : k < l.length) : (l.take (k + 1)).flatMap e = (l.take k).flatMap e ++ e l[k] := by
  rw [List.take_add_one, List.flatMap_append, List.getElem?_eq_getElem h]
  simp
theorem flat_le {α : Type} (e : α → List Bool) (l : List α) (k : Nat) : ((l.take k).flatMap e).length ≤ (l.flatMap e).length := by
  have := congrArg (fun x => (x.flatMap e).length) (List.take_append_drop k l)
  simp only [List.flatMap_append, List.length_append] at this
  omega
theorem flat_le2 {α : Type} (e : α → List Bool) (l : List α) (k : Nat) (h : k < l.length) : ((l.take k).flatMap e).length + (e l[k]).length ≤ (l.flatMap e).length := by
  have := flat_le e l (k + 1)
  rw [flat_snoc e l k h, List.length_append] at this
  exact this

set_option maxRecDepth 20000 in
set_option maxHeartbeats 2000000 in
theorem enc1_any {S : Nat → Prop} {w1 w : World} {c g : Nat} {b : List Bool} (h : EncS S w1 w g b) (hc : CapS S w1 c g) (x : Int × Int) (hx : x.1.natAbs < 2 ^ 53 ∧ x.2.natAbs < 2 ^ 53) (hb : b.length + (noE x).length ≤ 549755813888) :
    Calls Try.prog 45 #[cxc x, .pointer (some ⟨c, 0, none⟩)] w fun e w' => e = .returned (.tuple #[]) ∧ EncS S w1 w' g (b ++ noE x) := by
  obtain ⟨x, y⟩ := x
  have HP := Lib.hid (nums_new h [x, y] 32 32 rfl (by simp) (by unfold noE at hb; rw [numB_length] at hb; exact hb))
  have v1 := conv_run hx.1
  have v2 := conv_run hx.2
  have c0 := hc.at h
  unfold cxc noE
  simp only at v1 v2 ⊢
  clear h hc hx hb
  go_enter Try.func45, Try.ntmps45
  go_wp2_with fail
  refine HP.out.mono ?_
  rintro e w3 ⟨rfl, H3⟩
  clear c0 v1 v2
  go_wp2
  go_end0
  exact ⟨rfl, H3⟩
theorem encI_any {S : Nat → Prop} {w1 w : World} {c g : Nat} {b : List Bool} (h : EncS S w1 w g b) (hc : CapS S w1 c g) (x : Int) (hb : b.length + (inE x).length ≤ 549755813888) :
    Calls Try.prog 77 #[.int .i64 x, .pointer (some ⟨c, 0, none⟩)] w fun e w' => e = .returned (.tuple #[]) ∧ EncS S w1 w' g (b ++ inE x) := by
  have HP := Lib.hid (nums_new h [x] 8 8 rfl (by simp) (by unfold inE at hb; rw [numB_length] at hb; exact hb))
  have c0 := hc.at h
  unfold inE
  clear h hc hb
  go_enter Try.func77, Try.ntmps77
  go_wp2_with fail
  refine HP.out.mono ?_
  rintro e w3 ⟨rfl, H3⟩
  clear c0
  go_wp2
  go_end0
  exact ⟨rfl, H3⟩
set_option maxRecDepth 20000 in
set_option maxHeartbeats 2000000 in
theorem enc3_any {S : Nat → Prop} {w1 w : World} {c g : Nat} {b : List Bool} (h : EncS S w1 w g b) (hc : CapS S w1 c g) (x : Int × Int × Int × Int) (hb : b.length + (poE x).length ≤ 549755813888) :
    Calls Try.prog 51 #[.agg (poi x).toArray, .pointer (some ⟨c, 0, none⟩)] w fun e w' => e = .returned (.tuple #[]) ∧ EncS S w1 w' g (b ++ poE x) := by
  obtain ⟨x, y, z, u⟩ := x
  have FA := (Fr.refl No w).alloc (.cells #[.int .i64 x, .int .i64 y, .int .i64 z, .int .i64 u] 51)
  have HP := Lib.hid (nums_new (h.no FA) [x, y, z, u] 8 8 rfl (by simp) (by unfold poE at hb; rw [numB_length] at hb; exact hb))
  have c0 := hc.at (h.no FA)
  rw [show (w.alloc (.cells #[.int .i64 x, .int .i64 y, .int .i64 z, .int .i64 u] 51)).heap.size = w.heap.size + 1 by simp] at HP
  rw [show (ints .i64 [x, y, z, u]).toArray = #[.int .i64 x, .int .i64 y, .int .i64 z, .int .i64 u] from rfl, show [x, y, z, u].length = 4 from rfl] at HP
  unfold poi poE
  simp only
  clear h hc hb FA
  go_enter Try.func51, Try.ntmps51
  go_wp2_with fail
  refine HP.out.mono ?_
  rintro e w3 ⟨rfl, H3⟩
  clear c0
  go_wp2
  go_end0
  exact ⟨rfl, H3⟩
set_option maxRecDepth 20000 in
set_option maxHeartbeats 2000000 in
theorem enc2_any {S : Nat → Prop} {w1 w : World} {c g : Nat} {b : List Bool} (h : EncS S w1 w g b) (hc : CapS S w1 c g) (x : Int × Int × Int) (hb : b.length + (seE x).length ≤ 549755813888) :
    Calls Try.prog 48 #[.agg (sei x).toArray, .pointer (some ⟨c, 0, none⟩)] w fun e w' => e = .returned (.tuple #[]) ∧ EncS S w1 w' g (b ++ seE x) := by
  obtain ⟨x, y, z⟩ := x
  have FA := (Fr.refl No w).alloc (.cells #[.int .i64 x, .int .i64 y, .int .i64 z] 48)
  have ba : (w.alloc (.cells #[.int .i64 x, .int .i64 y, .int .i64 z] 48)).heap[w.heap.size]? = some (.cells #[.int .i64 x, .int .i64 y, .int .i64 z] 48 (0, 0)) := blk_new _ _
  have hl : (seE (x, y, z)).length = 32 := by unfold seE; rw [List.length_append, numB_length, numB_length]; rfl
  rw [hl] at hb
  have h0 := h.no FA
  obtain ⟨S', E0, hx, back⟩ := h.split (.cells #[.int .i64 x, .int .i64 y, .int .i64 z] 48)
  have HP := Lib.hid (nums_new E0 [x] 16 16 rfl (by simp) (by simp; omega))
  have c0 := hc.at h0
  rw [show (w.alloc (.cells #[.int .i64 x, .int .i64 y, .int .i64 z] 48)).heap.size = w.heap.size + 1 by simp] at HP
  rw [show (ints .i64 [x]).toArray = #[.int .i64 x] from rfl, show [x].length = 1 from rfl] at HP
  have HC := Lib.hid hc
  have HB := Lib.hid back
  have HX := Lib.hid hx
  have HBa := Lib.hid ba
  unfold sei seE
  simp only
  clear h hc FA h0 E0 back hx ba hl
  obtain ⟨q, hq⟩ : ∃ q, w.heap.size = q := ⟨_, rfl⟩
  rw [hq] at HP
  go_enter Try.func48, Try.ntmps48
  go_wp2_with fail
  refine HP.out.mono ?_
  rintro e w3 ⟨rfl, H3⟩
  have c1 := HC.out.at (HB.out _ _ H3)
  have b3 := H3.fr.heap HBa.out HX.out
  rw [hq] at b3
  have z1 : w3.cell? ⟨q, 1, none⟩ = some (.int .i64 y) := by rw [blk_cell b3]; rfl
  have z2 : w3.cell? ⟨q, 2, none⟩ = some (.int .i64 z) := by rw [blk_cell b3]; rfl
  have HP2 := Lib.hid (nums_new (HB.out _ _ H3) [y, z] 8 8 rfl (by simp) (by rw [List.length_append, numB_length]; simp; omega))
  rw [List.append_assoc, show (ints .i64 [y, z]).toArray = #[.int .i64 y, .int .i64 z] from rfl, show [y, z].length = 2 from rfl] at HP2
  clear c0 H3 b3 HP HBa HX HB HC
  go_wp2_with fail
  refine HP2.out.mono ?_
  rintro e w4 ⟨rfl, H4⟩
  clear c1 z1 z2
  go_wp2
  go_end0
  exact ⟨rfl, H4⟩

theorem ints_at {w : World} {A : Option Addr} {l : List Int} (h : RdK w A 1 l.length (ints .i64 l)) {i : Nat} (hi : i < l.length) : ∃ ad, A = some ad ∧ w.cell? (ad.add i) = some (.int .i64 l[i]) := by
  obtain ⟨ad, e, hc⟩ := h.2.2 i (by omega)
  refine ⟨ad, e, ?_⟩
  rw [hc, ints_getD .i64 l hi]
  simp [List.getD_eq_getElem?_getD, List.getElem?_eq_getElem hi]
set_option maxRecDepth 20000 in
set_option maxHeartbeats 4000000 in
theorem layC_any {S : Nat → Prop} {w1 w : World} {c g : Nat} {b : List Bool} {A : Option Addr} {cap : Nat} {l : List (Int × Int)} (h : EncS S w1 w g b) (hc : CapS S w1 c g) (hR : RdK w1 A 1 l.length (l.flatMap cx1)) (hA : ∀ ad, A = some ad → ¬ S ad.block) (hS : ∀ x ∈ l, x.1.natAbs < 2 ^ 53 ∧ x.2.natAbs < 2 ^ 53) (hb : b.length + (layB noE l).length ≤ 549755813888) :
    Calls Try.prog 44 #[.pointer (some ⟨g, 0, none⟩), .slice A l.length cap, .func (.func 45) #[] #[.pointer (some ⟨c, 0, none⟩)]] w fun e w' => e = .returned (.tuple #[]) ∧ EncS S w1 w' g (b ++ layB noE l) := by
  have hsz := hR.2.1
  unfold layB at hb ⊢
  rw [List.length_append, putBits_length] at hb
  have HP := Lib.hid (putS h (by omega) l.length (by omega) 8 8 rfl)
  have HC := Lib.hid hc
  have HR := Lib.hid hR
  have HA := Lib.hid hA
  have HB := Lib.hid hb
  have HS := Lib.hid hS
  clear hS
  obtain ⟨n, hn⟩ : ∃ n, l.length = n := ⟨_, rfl⟩
  have HN := Lib.hid hn
  rw [hn] at HP hsz ⊢
  have i1 : IntKind.u64.wrap (n : Int) = (n : Int) := by rw [IntKind.wrap_u64]; omega
  clear h hc hR hA hb hn
  go_enter Try.func44, Try.ntmps44
  go_wp2_with fail
  refine HP.out.mono ?_
  rintro e w2 ⟨rfl, H2⟩
  have HH := Lib.hid H2
  clear HP H2
  go_wp2
  go_loopg [15] n (fun gk i wr => ∃ k : Nat, k + gk = n ∧ i = .int .i64 (k : Int) ∧ Hid (EncS S w1 wr g (b ++ (putBits n 8 ++ (l.take k).flatMap noE))))
  case atStart => exact ⟨0, by omega, rfl, Lib.hid (by rw [List.take_zero, List.flatMap_nil, List.append_nil]; exact HH.out)⟩
  case round =>
    obtain ⟨k, hk, rfl, HW⟩ := hrel
    clear HH i1
    by_cases hlt : k < n
    · have hkl : k < l.length := by rw [HN.out]; exact hlt
      obtain ⟨ad, rfl, cx⟩ := cx1_at (HR.out.fr HW.out.fr HA.out) hkl
      have sz := HS.out _ (List.getElem_mem hkl)
      have hsn := flat_snoc noE l k hkl
      have hle := flat_le2 noE l k hkl
      obtain ⟨x, hx⟩ : ∃ x, l[k] = x := ⟨_, rfl⟩
      rw [hx] at hsn hle cx sz
      have hbb : (b ++ (putBits n 8 ++ (l.take k).flatMap noE)).length + (noE x).length ≤ 549755813888 := by
        have := HB.out
        simp only [List.length_append, putBits_length]
        omega
      have HQ := Lib.hid (enc1_any HW.out HC.out x sz hbb)
      have i4 : (k : Int) < (n : Int) := by omega
      have i0 : (0 : Int) ≤ (k : Int) := by omega
      rw [List.append_assoc, List.append_assoc, ← hsn] at HQ
      clear hsn hle hx hbb sz
      go_wp2_with fail
      refine HQ.out.mono ?_
      rintro e w3 ⟨rfl, H3⟩
      have H4 := Lib.hid H3
      clear HQ H3 cx
      go_wp2
      go_roundg (n - (k + 1))
      case measure => omega
      case rel => exact ⟨k + 1, by omega, by go_num, H4⟩
    · obtain rfl : k = n := by omega
      go_wp2
      go_end0
      exact ⟨rfl, by have := HW.out; rw [← HN.out, List.take_length] at this; rw [← HN.out]; exact this⟩

set_option maxRecDepth 20000 in
set_option maxHeartbeats 4000000 in
theorem layI_any {S : Nat → Prop} {w1 w : World} {c g : Nat} {b : List Bool} {A : Option Addr} {cap : Nat} {l : List Int} (h : EncS S w1 w g b) (hc : CapS S w1 c g) (hR : RdK w1 A 1 l.length (ints .i64 l)) (hA : ∀ ad, A = some ad → ¬ S ad.block) (hb : b.length + (layB inE l).length ≤ 549755813888) :
    Calls Try.prog 76 #[.pointer (some ⟨g, 0, none⟩), .slice A l.length cap, .func (.func 77) #[] #[.pointer (some ⟨c, 0, none⟩)]] w fun e w' => e = .returned (.tuple #[]) ∧ EncS S w1 w' g (b ++ layB inE l) := by
  have hsz := hR.2.1
  unfold layB at hb ⊢
  rw [List.length_append, putBits_length] at hb
  have HP := Lib.hid (putS h (by omega) l.length (by omega) 8 8 rfl)
  have HC := Lib.hid hc
  have HR := Lib.hid hR
  have HA := Lib.hid hA
  have HB := Lib.hid hb
  obtain ⟨n, hn⟩ : ∃ n, l.length = n := ⟨_, rfl⟩
  have HN := Lib.hid hn
  rw [hn] at HP hsz ⊢
  have i1 : IntKind.u64.wrap (n : Int) = (n : Int) := by rw [IntKind.wrap_u64]; omega
  clear h hc hR hA hb hn
  go_enter Try.func76, Try.ntmps76
  go_wp2_with fail
  refine HP.out.mono ?_
  rintro e w2 ⟨rfl, H2⟩
  have HH := Lib.hid H2
  clear HP H2
  go_wp2
  go_loopg [15] n (fun gk i wr => ∃ k : Nat, k + gk = n ∧ i = .int .i64 (k : Int) ∧ Hid (EncS S w1 wr g (b ++ (putBits n 8 ++ (l.take k).flatMap inE))))
  case atStart => exact ⟨0, by omega, rfl, Lib.hid (by rw [List.take_zero, List.flatMap_nil, List.append_nil]; exact HH.out)⟩
  case round =>
    obtain ⟨k, hk, rfl, HW⟩ := hrel
    clear HH i1
    by_cases hlt : k < n
    · have hkl : k < l.length := by rw [HN.out]; exact hlt
      obtain ⟨ad, rfl, cx⟩ := ints_at (HR.out.fr HW.out.fr HA.out) hkl
      have hsn := flat_snoc inE l k hkl
      have hle := flat_le2 inE l k hkl
      obtain ⟨x, hx⟩ : ∃ x, l[k] = x := ⟨_, rfl⟩
      rw [hx] at hsn hle cx
      have hbb : (b ++ (putBits n 8 ++ (l.take k).flatMap inE)).length + (inE x).length ≤ 549755813888 := by
        have := HB.out
        simp only [List.length_append, putBits_length]
        omega
      have HQ := Lib.hid (encI_any HW.out HC.out x hbb)
      have i4 : (k : Int) < (n : Int) := by omega
      have i0 : (0 : Int) ≤ (k : Int) := by omega
      rw [List.append_assoc, List.append_assoc, ← hsn] at HQ
      clear hsn hle hx hbb
      go_wp2_with fail
      refine HQ.out.mono ?_
      rintro e w3 ⟨rfl, H3⟩
      have H4 := Lib.hid H3
      clear HQ H3 cx
      go_wp2
      go_roundg (n - (k + 1))
      case measure => omega
      case rel => exact ⟨k + 1, by omega, by go_num, H4⟩
    · obtain rfl : k = n := by omega
      go_wp2
      go_end0
      exact ⟨rfl, by have := HW.out; rw [← HN.out, List.take_length] at this; rw [← HN.out]; exact this⟩

set_option maxRecDepth 20000 in
set_option maxHeartbeats 4000000 in
theorem layS_any {S : Nat → Prop} {w1 w : World} {c g : Nat} {b : List Bool} {A : Option Addr} {cap : Nat} {l : List (Int × Int × Int)} (h : EncS S w1 w g b) (hc : CapS S w1 c g) (hR : RdK w1 A 3 l.length (l.flatMap sei)) (hA : ∀ ad, A = some ad → ¬ S ad.block) (hb : b.length + (layB seE l).length ≤ 549755813888) :
    Calls Try.prog 47 #[.pointer (some ⟨g, 0, none⟩), .slice A l.length cap, .func (.func 48) #[] #[.pointer (some ⟨c, 0, none⟩)]] w fun e w' => e = .returned (.tuple #[]) ∧ EncS S w1 w' g (b ++ layB seE l) := by
  have hsz := hR.2.1
  unfold layB at hb ⊢
  rw [List.length_append, putBits_length] at hb
  have HP := Lib.hid (putS h (by omega) l.length (by omega) 8 8 rfl)
  have HC := Lib.hid hc
  have HR := Lib.hid hR
  have HA := Lib.hid hA
  have HB := Lib.hid hb
  obtain ⟨n, hn⟩ : ∃ n, l.length = n := ⟨_, rfl⟩
  have HN := Lib.hid hn
  rw [hn] at HP hsz ⊢
  have i1 : IntKind.u64.wrap (n : Int) = (n : Int) := by rw [IntKind.wrap_u64]; omega
  clear h hc hR hA hb hn
  go_enter Try.func47, Try.ntmps47
  go_wp2_with fail
  refine HP.out.mono ?_
  rintro e w2 ⟨rfl, H2⟩
  have HH := Lib.hid H2
  clear HP H2
  go_wp2
  go_loopg [15] n (fun gk i wr => ∃ k : Nat, k + gk = n ∧ i = .int .i64 (k : Int) ∧ Hid (EncS S w1 wr g (b ++ (putBits n 8 ++ (l.take k).flatMap seE))))
  case atStart => exact ⟨0, by omega, rfl, Lib.hid (by rw [List.take_zero, List.flatMap_nil, List.append_nil]; exact HH.out)⟩
  case round =>
    obtain ⟨k, hk, rfl, HW⟩ := hrel
    clear HH i1
    by_cases hlt : k < n
    · have hkl : k < l.length := by rw [HN.out]; exact hlt
      obtain ⟨ad, rfl, cx0, cx1, cx2⟩ := sei_at (HR.out.fr HW.out.fr HA.out) hkl
      have hsn := flat_snoc seE l k hkl
      have hle := flat_le2 seE l k hkl
      obtain ⟨x, hx⟩ : ∃ x, l[k] = x := ⟨_, rfl⟩
      rw [hx] at hsn hle cx0 cx1 cx2
      have hbb : (b ++ (putBits n 8 ++ (l.take k).flatMap seE)).length + (seE x).length ≤ 549755813888 := by
        have := HB.out
        simp only [List.length_append, putBits_length]
        omega
      have HQ := Lib.hid (enc2_any (HW.out.no ((Fr.refl No wr).alloc (.cells (sei x).toArray 48))) HC.out x hbb)
      have i4 : (k : Int) < (n : Int) := by omega
      have i0 : (0 : Int) ≤ (k : Int) := by omega
      rw [List.append_assoc, List.append_assoc, ← hsn] at HQ
      clear hsn hle hx hbb
      obtain ⟨x0, x1, x2⟩ := x
      simp only at cx0 cx1 cx2
      unfold sei at HQ
      simp only at HQ
      go_wp2_with fail
      refine HQ.out.mono ?_
      rintro e w3 ⟨rfl, H3⟩
      have H4 := Lib.hid H3
      clear HQ H3 cx0 cx1 cx2
      go_wp2
      go_roundg (n - (k + 1))
      case measure => omega
      case rel => exact ⟨k + 1, by omega, by go_num, H4⟩
    · obtain rfl : k = n := by omega
      go_wp2
      go_end0
      exact ⟨rfl, by have := HW.out; rw [← HN.out, List.take_length] at this; rw [← HN.out]; exact this⟩

set_option maxRecDepth 20000 in
set_option maxHeartbeats 4000000 in
theorem layP_any {S : Nat → Prop} {w1 w : World} {c g : Nat} {b : List Bool} {A : Option Addr} {cap : Nat} {l : List (Int × Int × Int × Int)} (h : EncS S w1 w g b) (hc : CapS S w1 c g) (hR : RdK w1 A 4 l.length (l.flatMap poi)) (hA : ∀ ad, A = some ad → ¬ S ad.block) (hb : b.length + (layB poE l).length ≤ 549755813888) :
    Calls Try.prog 50 #[.pointer (some ⟨g, 0, none⟩), .slice A l.length cap, .func (.func 51) #[] #[.pointer (some ⟨c, 0, none⟩)]] w fun e w' => e = .returned (.tuple #[]) ∧ EncS S w1 w' g (b ++ layB poE l) := by
  have hsz := hR.2.1
  unfold layB at hb ⊢
  rw [List.length_append, putBits_length] at hb
  have HP := Lib.hid (putS h (by omega) l.length (by omega) 8 8 rfl)
  have HC := Lib.hid hc
  have HR := Lib.hid hR
  have HA := Lib.hid hA
  have HB := Lib.hid hb
  obtain ⟨n, hn⟩ : ∃ n, l.length = n := ⟨_, rfl⟩
  have HN := Lib.hid hn
  rw [hn] at HP hsz ⊢
  have i1 : IntKind.u64.wrap (n : Int) = (n : Int) := by rw [IntKind.wrap_u64]; omega
  clear h hc hR hA hb hn
  go_enter Try.func50, Try.ntmps50
  go_wp2_with fail
  refine HP.out.mono ?_
  rintro e w2 ⟨rfl, H2⟩
  have HH := Lib.hid H2
  clear HP H2
  go_wp2
  go_loopg [15] n (fun gk i wr => ∃ k : Nat, k + gk = n ∧ i = .int .i64 (k : Int) ∧ Hid (EncS S w1 wr g (b ++ (putBits n 8 ++ (l.take k).flatMap poE))))
  case atStart => exact ⟨0, by omega, rfl, Lib.hid (by rw [List.take_zero, List.flatMap_nil, List.append_nil]; exact HH.out)⟩
  case round =>
    obtain ⟨k, hk, rfl, HW⟩ := hrel
    clear HH i1
    by_cases hlt : k < n
    · have hkl : k < l.length := by rw [HN.out]; exact hlt
      obtain ⟨ad, rfl, cx0, cx1, cx2, cx3⟩ := poi_at (HR.out.fr HW.out.fr HA.out) hkl
      have hsn := flat_snoc poE l k hkl
      have hle := flat_le2 poE l k hkl
      obtain ⟨x, hx⟩ : ∃ x, l[k] = x := ⟨_, rfl⟩
      rw [hx] at hsn hle cx0 cx1 cx2 cx3
      have hbb : (b ++ (putBits n 8 ++ (l.take k).flatMap poE)).length + (poE x).length ≤ 549755813888 := by
        have := HB.out
        simp only [List.length_append, putBits_length]
        omega
      have HQ := Lib.hid (enc3_any (HW.out.no ((Fr.refl No wr).alloc (.cells (poi x).toArray 51))) HC.out x hbb)
      have i4 : (k : Int) < (n : Int) := by omega
      have i0 : (0 : Int) ≤ (k : Int) := by omega
      rw [List.append_assoc, List.append_assoc, ← hsn] at HQ
      clear hsn hle hx hbb
      obtain ⟨x0, x1, x2, x3⟩ := x
      simp only at cx0 cx1 cx2 cx3
      unfold poi at HQ
      simp only at HQ
      go_wp2_with fail
      refine HQ.out.mono ?_
      rintro e w3 ⟨rfl, H3⟩
      have H4 := Lib.hid H3
      clear HQ H3 cx0 cx1 cx2 cx3
      go_wp2
      go_roundg (n - (k + 1))
      case measure => omega
      case rel => exact ⟨k + 1, by omega, by go_num, H4⟩
    · obtain rfl : k = n := by omega
      go_wp2
      go_end0
      exact ⟨rfl, by have := HW.out; rw [← HN.out, List.take_length] at this; rw [← HN.out]; exact this⟩
end Go.Proofs.Ytfnlimcgoeknjaa

namespace Go.Proofs.Ytfnlimcgoeknjaa
open Go.RowKit Go Fl

theorem rd_one {w : World} {A : Option Addr} {xs : List Int} (h : Rd w A (ints .i64 xs)) : RdK w A 1 xs.length (ints .i64 xs) :=
  ⟨by rw [ints_length]; omega, by have := h.1; rwa [ints_length] at this, fun j hj => h.2 j (by rw [ints_length]; omega)⟩
theorem ilv_at2 {w : World} {A : Option Addr} {M : IL} (h : RdK w A 1 M.length (ilv M)) {i : Nat} (hi : i < M.length) : ∃ ad, A = some ad ∧ w.cell? (ad.add i) = some (.slice M[i].1 M[i].2.2.length M[i].2.1) := by
  obtain ⟨ad, e, hc⟩ := h.2.2 i (by omega)
  refine ⟨ad, e, ?_⟩
  rw [hc]
  simp [ilv, List.getD_eq_getElem?_getD, List.getElem?_eq_getElem hi]
def ilE (x : Option Addr × Nat × List Int) : List Bool := roE x.2.2
theorem ilE_map (M : IL) : layB ilE M = layB roE (M.map fun x => x.2.2) := by
  unfold layB
  rw [List.length_map, List.flatMap_map]
  rfl
theorem encN_any {S : Nat → Prop} {w1 w : World} {c g : Nat} {b : List Bool} {x : Option Addr × Nat × List Int} (h : EncS S w1 w g b) (hc : CapS S w1 c g) (hR : Rd w1 x.1 (ints .i64 x.2.2)) (hA : ∀ ad, x.1 = some ad → ¬ S ad.block) (hb : b.length + (ilE x).length ≤ 549755813888) :
    Calls Try.prog 75 #[.slice x.1 x.2.2.length x.2.1, .pointer (some ⟨c, 0, none⟩)] w fun e w' => e = .returned (.tuple #[]) ∧ EncS S w1 w' g (b ++ ilE x) := by
  have HP := Lib.hid (layI_any (cap := x.2.1) h hc (rd_one hR) hA hb)
  have c0 := hc.at h
  have hmf : ∀ (fn : Fn) (first cap : Array Value) (w : World), (Instr.makeFunc fn first cap).run Try.prog w = .ok (.func fn first cap) w := fun _ _ _ _ => rfl
  obtain ⟨x0, x1, x2⟩ := x
  unfold ilE roE
  simp only at HP ⊢
  clear h hc hR hA hb
  go_enter Try.func75, Try.ntmps75
  go_wp2_with fail
  refine HP.out.mono ?_
  rintro e w3 ⟨rfl, H3⟩
  clear c0
  go_wp2
  go_end0
  exact ⟨rfl, H3⟩
set_option maxRecDepth 20000 in
set_option maxHeartbeats 4000000 in
theorem layN_any {S : Nat → Prop} {w1 w : World} {c g : Nat} {b : List Bool} {A : Option Addr} {cap : Nat} {l : IL} (h : EncS S w1 w g b) (hc : CapS S w1 c g) (hR : RdK w1 A 1 l.length (ilv l)) (hX : ∀ x ∈ l, Rd w1 x.1 (ints .i64 x.2.2) ∧ ∀ ad, x.1 = some ad → ¬ S ad.block) (hA : ∀ ad, A = some ad → ¬ S ad.block) (hb : b.length + (layB ilE l).length ≤ 549755813888) :
    Calls Try.prog 74 #[.pointer (some ⟨g, 0, none⟩), .slice A l.length cap, .func (.func 75) #[] #[.pointer (some ⟨c, 0, none⟩)]] w fun e w' => e = .returned (.tuple #[]) ∧ EncS S w1 w' g (b ++ layB ilE l) := by
  have hsz := hR.2.1
  unfold layB at hb ⊢
  rw [List.length_append, putBits_length] at hb
  have HP := Lib.hid (putS h (by omega) l.length (by omega) 8 8 rfl)
  have HC := Lib.hid hc
  have HR := Lib.hid hR
  have HA := Lib.hid hA
  have HB := Lib.hid hb
  have HX := Lib.hid hX
  clear hX
  obtain ⟨n, hn⟩ : ∃ n, l.length = n := ⟨_, rfl⟩
  have HN := Lib.hid hn
  rw [hn] at HP hsz ⊢
  have i1 : IntKind.u64.wrap (n : Int) = (n : Int) := by rw [IntKind.wrap_u64]; omega
  clear h hc hR hA hb hn
  go_enter Try.func74, Try.ntmps74
  go_wp2_with fail
  refine HP.out.mono ?_
  rintro e w2 ⟨rfl, H2⟩
  have HH := Lib.hid H2
  clear HP H2
  go_wp2
  go_loopg [15] n (fun gk i wr => ∃ k : Nat, k + gk = n ∧ i = .int .i64 (k : Int) ∧ Hid (EncS S w1 wr g (b ++ (putBits n 8 ++ (l.take k).flatMap ilE))))
  case atStart => exact ⟨0, by omega, rfl, Lib.hid (by rw [List.take_zero, List.flatMap_nil, List.append_nil]; exact HH.out)⟩
  case round =>
    obtain ⟨k, hk, rfl, HW⟩ := hrel
    clear HH i1
    by_cases hlt : k < n
    · have hkl : k < l.length := by rw [HN.out]; exact hlt
      obtain ⟨ad, rfl, cx⟩ := ilv_at2 (HR.out.fr HW.out.fr HA.out) hkl
      have xr := HX.out _ (List.getElem_mem hkl)
      have hsn := flat_snoc ilE l k hkl
      have hle := flat_le2 ilE l k hkl
      obtain ⟨x, hx⟩ : ∃ x, l[k] = x := ⟨_, rfl⟩
      rw [hx] at hsn hle cx xr
      have hbb : (b ++ (putBits n 8 ++ (l.take k).flatMap ilE)).length + (ilE x).length ≤ 549755813888 := by
        have := HB.out
        simp only [List.length_append, putBits_length]
        omega
      have HQ := Lib.hid (encN_any HW.out HC.out xr.1 xr.2 hbb)
      have i4 : (k : Int) < (n : Int) := by omega
      have i0 : (0 : Int) ≤ (k : Int) := by omega
      rw [List.append_assoc, List.append_assoc, ← hsn] at HQ
      clear hsn hle hx hbb xr
      go_wp2_with fail
      refine HQ.out.mono ?_
      rintro e w3 ⟨rfl, H3⟩
      have H4 := Lib.hid H3
      clear HQ H3 cx
      go_wp2
      go_roundg (n - (k + 1))
      case measure => omega
      case rel => exact ⟨k + 1, by omega, by go_num, H4⟩
    · obtain rfl : k = n := by omega
      go_wp2
      go_end0
      exact ⟨rfl, by have := HW.out; rw [← HN.out, List.take_length] at this; rw [← HN.out]; exact this⟩


theorem lists_any {S : Nat → Prop} {w1 w : World} {g : Nat} {b : List Bool} {A : Option Addr} {cap : Nat} {M : IL} (h : EncS S w1 w g b) (hR : RdK w1 A 1 M.length (ilv M)) (hX : ∀ x ∈ M, Rd w1 x.1 (ints .i64 x.2.2) ∧ ∀ ad, x.1 = some ad → ¬ S ad.block ∧ ad.block < w1.heap.size) (hA : ∀ ad, A = some ad → ¬ S ad.block ∧ ad.block < w1.heap.size) (hb : b.length + (layB ilE M).length ≤ 549755813888) :
    Calls Try.prog 49 #[.pointer (some ⟨g, 0, none⟩), .slice A M.length cap] w fun e w' => e = .returned (.tuple #[]) ∧ EncS S w1 w' g (b ++ layB ilE M) := by
  obtain ⟨S', E0, hx, back, sub⟩ := h.split' (.cells #[.pointer (some ⟨g, 0, none⟩)] 82)
  have f := h.fr.alloc (.cells #[.pointer (some ⟨g, 0, none⟩)] 82)
  have hn : ∀ k, ¬ S k ∧ k < w1.heap.size → ¬ S' k := fun k hk h => (sub k h).elim hk.1 (fun e => by have := hk.2; omega)
  have cc : (w.alloc (.cells #[.pointer (some ⟨g, 0, none⟩)] 82)).cell? ⟨w.heap.size, 0, none⟩ = some (.pointer (some ⟨g, 0, none⟩)) := by rw [blk_cell (blk_new _ _)]; rfl
  have HP := Lib.hid (layN_any (cap := cap) E0 ⟨cc, hx⟩ (hR.fr f (fun ad e => (hA ad e).1)) (fun x hx => ⟨(hX x hx).1.fr f (fun ad e => ((hX x hx).2 ad e).1), fun ad e => hn _ ((hX x hx).2 ad e)⟩) (fun ad e => hn _ (hA ad e)) hb)
  have HB := Lib.hid back
  have hmf : ∀ (fn : Fn) (first cap : Array Value) (w : World), (Instr.makeFunc fn first cap).run Try.prog w = .ok (.func fn first cap) w := fun _ _ _ _ => rfl
  clear h E0 hx back sub f hn hR hX hA hb
  go_enter Try.func49, Try.ntmps49
  go_wp2_with fail
  refine HP.out.mono ?_
  rintro e w3 ⟨rfl, H3⟩
  clear cc
  go_wp2
  go_end0
  exact ⟨rfl, HB.out _ _ H3⟩
end Go.Proofs.Ytfnlimcgoeknjaa
