import Derived.Test.YtngjfebndhmlmaaBothW
import Derived.Test.YtngjfebndhmlmaaOpenW
namespace Go.Proofs.Ytngjfebndhmlmaa
open Go.RowKit Go

/-- A message's fields. -/
structure Msg where
  k : Nat
  t : Int
  tm : Int
  d : Int
  a : Int
  wh : Bool
  tr : List Int
def mnone : Msg := ⟨0, 0, 0, 0, 0, false, []⟩
def mval (m : Msg) (A : Option Addr) (c : Nat) : Value := .agg #[.int .u8 (m.k : Int), .int .i64 m.t, .int .i64 m.tm, .int .i64 m.d, .int .i64 m.a, .bool m.wh, .slice A m.tr.length c]

/-- What a message's bits are, read: the message and the error's number. -/
def trailS (l : List UInt8) (s : Pl) : Pl := manyS l (nx l s 4) 6 (gt l s 4)
def trailL (l : List UInt8) (s : Pl) : List Int := manyL l (nx l s 4) 6 (gt l s 4)
def fin (l : List UInt8) (m : Msg) (s : Pl) : Msg × Nat := if s.2 = true then (mnone, 4) else if ends l s.1 s.2 = true then (m, 0) else (mnone, 2)
def decM (l : List UInt8) : Msg × Nat :=
  if (nx l (0, false) 3).2 = true then (mnone, 4) else
  if gt l (0, false) 3 < 1 ∨ 6 < gt l (0, false) 3 then (mnone, 2) else
  if gt l (0, false) 3 = 3 then
    fin l ⟨3, gt l (nx l (0, false) 3) 6, gt l (nx l (nx l (0, false) 3) 6) 25, gt l (nx l (nx l (nx l (0, false) 3) 6) 25) 1, gt l (nx l (nx l (nx l (nx l (0, false) 3) 6) 25) 1) 14, decide (gt l (nx l (nx l (nx l (nx l (nx l (0, false) 3) 6) 25) 1) 14) 1 = 1),
      trailL l (nx l (nx l (nx l (nx l (nx l (nx l (0, false) 3) 6) 25) 1) 14) 1)⟩ (trailS l (nx l (nx l (nx l (nx l (nx l (nx l (0, false) 3) 6) 25) 1) 14) 1)) else
  if gt l (0, false) 3 = 6 then
    fin l ⟨6, gt l (nx l (0, false) 3) 6, gt l (nx l (nx l (0, false) 3) 6) 25, 0, 0, false, trailL l (nx l (nx l (nx l (0, false) 3) 6) 25)⟩ (trailS l (nx l (nx l (nx l (0, false) 3) 6) 25)) else
  fin l ⟨gt l (0, false) 3, gt l (nx l (0, false) 3) 6, gt l (nx l (nx l (0, false) 3) 6) 25, 0, 0, false, []⟩ (nx l (nx l (nx l (0, false) 3) 6) 25)
def decAll (l : List UInt8) : Msg × Int := if code l = 0 then ((decM (body l)).1, ((decM (body l)).2 : Int)) else (mnone, code l)

theorem infoInt : (Try.prog.info? 3).map (fun i => (i.zero, i.size, i.bytes)) = some (some (.int .i64 0), 1, 8) := by kernel_rfl
theorem ints_append (k : IntKind) (l m : List Int) : ints k (l ++ m) = ints k l ++ ints k m := by simp [ints]

set_option maxRecDepth 20000 in
set_option maxHeartbeats 4000000 in
theorem sections_any {w : World} {r : Nat} {B : Option Addr} {d : Nat} {l : List UInt8} {s : Pl} (h : RdAt w r B d l s) :
    Calls Try.prog 44 #[.pointer (some ⟨r, 0, none⟩)] w fun e w' => ∃ v, e = .returned v ∧ Own w' 3 v (ints .i64 (trailL l s)) ∧ New w v ∧ RdAt w' r B d l (trailS l s) ∧ Fr (RS r) w w' := by
  have HG := Lib.hid (get_at h 4 4 rfl)
  have hlt := gt_lt l s 4
  have hrl : Hid (r < w.heap.size) := blk_lt h.blk
  have hBl : Hid (∀ ad, B = some ad → ad.block < w.heap.size) := h.lt
  unfold trailL trailS
  obtain ⟨n, hn⟩ : ∃ n, gt l s 4 = n := ⟨_, rfl⟩
  obtain ⟨s1, hs1⟩ : ∃ s1, nx l s 4 = s1 := ⟨_, rfl⟩
  rw [hn, hs1] at HG
  rw [hn] at hlt
  rw [hn, hs1]
  clear h hn hs1
  go_enter Try.func44, Try.ntmps44
  go_wp2_with fail
  refine HG.out.mono ?_
  rintro e w1 ⟨rfl, R1, F1⟩
  clear HG
  go_wp2
  go_loopg [3, 6] n (fun gk v i wr => ∃ (k : Nat) (v2 : Value), k + gk = n ∧ v2 = v ∧ i = .int .u64 (k : Int) ∧ Own wr 3 v2 (ints .i64 (manyL l s1 6 k)) ∧ New w v2 ∧ RdAt wr r B d l (manyS l s1 6 k) ∧ Fr (RS r) w wr)
  case atStart => exact ⟨0, _, by omega, rfl, rfl, Own.nil _ _, fun k e => by simp [Value.ownBlock] at e, R1, F1⟩
  case round =>
    obtain ⟨k, v2, hk, rfl, rfl, O1, N1, R2, F2⟩ := hrel
    clear R1 F1
    by_cases hkn : k < n
    · have HG := Lib.hid (get_at R2 6 6 rfl)
      have hlt2 := gt_lt l (manyS l s1 6 k) 6
      obtain ⟨y, hy⟩ : ∃ y, gt l (manyS l s1 6 k) 6 = y := ⟨_, rfl⟩
      have hsucc : Hid (manyL l s1 6 (k + 1) = manyL l s1 6 k ++ [(y : Int)]) := by show manyL l s1 6 (k + 1) = manyL l s1 6 k ++ [(y : Int)]; rw [← hy]; rfl
      have hsu2 : Hid (manyS l s1 6 (k + 1) = nx l (manyS l s1 6 k) 6) := rfl
      have hlen := manyL_length l s1 6 k
      rw [hy] at HG hlt2
      have HO := Lib.hid O1
      have HN := Lib.hid N1
      have HF := Lib.hid F2
      have i1 : IntKind.i64.wrap (y : Int) = (y : Int) := by rw [IntKind.wrap_i64]; omega
      clear O1 N1 R2 F2 hy hlt2
      go_wp2_with fail
      refine HG.out.mono ?_
      rintro e w3 ⟨rfl, R3, F3⟩
      have hvr : ∀ q, v2.ownBlock = some q → q ≠ r := fun q hq e => by have := HN.out q hq; have := hrl.out; omega
      have O3 := HO.out.fr F3 (fun q hq e => hvr q hq e)
      have hF3 := HF.out.trans F3 (fun i hi => .inl hi)
      have HO3 := Lib.hid O3
      have HF3 := Lib.hid hF3
      have HR3 := Lib.hid R3
      clear O3 hF3 R3 F3 HO HF HG
      go_wp2_with (at_builtin; go_loud (refine own_append rfl (.tmp 8) (.tmp 12) 32 3 (.int .i64 0) 8 rfl Try.underlying32 infoInt rfl (by decide) _ (ints .i64 (manyL l s1 6 k)) (.int .i64 (y : Int)) _ rfl rfl rfl rfl HO3.out ?hl ?_))
      case hl => rw [ints_length]; omega
      intro v3 w4 o4 f4 a4
      have O4 : Own w4 3 v3 (ints .i64 (manyL l s1 6 (k + 1))) := by rw [hsucc.out, ints_append]; exact o4
      have F4 : Fr (RS r) w w4 := HF3.out.trans f4 (fun i hi => .inr (HN.out i hi))
      have N4 : New w v3 := by
        intro q hq
        rcases a4 with e | ⟨b, e, hb⟩
        · rw [e] at hq; exact HN.out q hq
        · rw [e] at hq; cases hq; exact Nat.le_trans HF3.out.size hb
      have R4 : RdAt w4 r B d l (manyS l s1 6 (k + 1)) := by
        rw [hsu2.out]
        exact HR3.out.fr f4 (fun e => hvr _ e rfl) (fun ad e e2 => by have := HN.out _ e2; have := hBl.out ad e; omega)
      have H1 := Lib.hid O4
      have H2 := Lib.hid F4
      have H3 := Lib.hid N4
      have H4 := Lib.hid R4
      clear o4 f4 a4 O4 F4 N4 R4 HO3 HF3 HR3 hvr
      go_wp2
      go_roundg (n - (k + 1))
      case measure => omega
      case rel => exact ⟨k + 1, v3, by omega, rfl, by go_num, H1.out, H3.out, H4.out, H2.out⟩
    · obtain rfl : k = n := by omega
      go_wp2
      go_ret
      exact ⟨v2, rfl, O1, N1, R2, F2⟩
end Go.Proofs.Ytngjfebndhmlmaa
