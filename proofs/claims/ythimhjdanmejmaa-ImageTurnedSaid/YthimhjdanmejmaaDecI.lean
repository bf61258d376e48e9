import Derived.Test.YthimhjdanmejmaaLockW
import Derived.Test.YthimhjdanmejmaaMemK
namespace Go.Proofs.Ythimhjdanmejmaa
open Go.RowKit Go

theorem nx_fail {l : List UInt8} {s : Pl} {m : Nat} (h : s.2 = true) : (nx l s m).2 = true := by unfold nx; simp [h]
theorem many_fail {l : List UInt8} {s : Pl} {m : Nat} (h : s.2 = true) : ∀ n, (manyS l s m n).2 = true
  | 0 => h
  | n + 1 => nx_fail (many_fail h n)
theorem lkN_fail {l : List UInt8} {s : Pl} (h : s.2 = true) : (lkN l s).2 = true := many_fail (nx_fail (nx_fail (nx_fail (nx_fail h)))) _
theorem lkS_fail {l : List UInt8} {s : Pl} {k : Nat} (h : (lkS l s k).2 = true) : ∀ i, (lkS l s (k + i)).2 = true
  | 0 => h
  | i + 1 => lkN_fail (lkS_fail h i)

/-- What an image's bits are, read. -/
def decI (l : List UInt8) : List Lk × Nat :=
  if (lkS l (nx l (0, false) 8) (gt l (0, false) 8)).2 = true then ([], 4)
  else if ends l (lkS l (nx l (0, false) 8) (gt l (0, false) 8)).1 (lkS l (nx l (0, false) 8) (gt l (0, false) 8)).2 = true then (lkL l (nx l (0, false) 8) (gt l (0, false) 8), 0) else ([], 2)
def decIAll (l : List UInt8) : List Lk × Int := if code l = 0 then ((decI (body l)).1, ((decI (body l)).2 : Int)) else ([], code l)

/-- Locks in a row of this call's own: each with where its pieces lie. -/
abbrev LkM := Lk × Option Addr × Nat
def lcells (x : LkM) : List Value := [.int .i64 (x.1.r : Int), .int .i64 (x.1.t : Int), .int .i64 x.1.e, .slice x.2.1 x.1.p.length x.2.2]
theorem lcells_length (x : LkM) : (lcells x).length = 4 := rfl
structure Rows (w0 w : World) (e : TypeId) (v : Value) (M : List LkM) : Prop where
  own : OwnK w e 4 v M.length (M.flatMap lcells)
  old : ∀ k, v.ownBlock = some k → w0.heap.size ≤ k
  rd : ∀ x ∈ M, Rd w x.2.1 (bys x.1.p) ∧ ∀ ad, x.2.1 = some ad → w0.heap.size ≤ ad.block ∧ v.ownBlock ≠ some ad.block ∧ ad.block < w.heap.size
theorem Rows.nil (w0 w : World) (e : TypeId) : Rows w0 w e (.slice none 0 0) [] := ⟨OwnK.nil _ _ _, fun k h => by simp [Value.ownBlock] at h, by simp⟩
theorem Rows.fr {S : Nat → Prop} {w0 w w1 : World} {e : TypeId} {v : Value} {M : List LkM} (h : Rows w0 w e v M) (hf : Fr S w w1) (hs : ∀ k, w0.heap.size ≤ k → ¬ S k) : Rows w0 w1 e v M :=
  ⟨h.own.fr hf (fun k hk => hs k (h.old k hk)), h.old, fun x hx => ⟨(h.rd x hx).1.fr hf (fun ad e => hs _ ((h.rd x hx).2 ad e).1), fun ad e => ⟨((h.rd x hx).2 ad e).1, ((h.rd x hx).2 ad e).2.1, Nat.lt_of_lt_of_le ((h.rd x hx).2 ad e).2.2 hf.size⟩⟩⟩
theorem Rows.base {w0 w00 w : World} {e : TypeId} {v : Value} {M : List LkM} (h : Rows w0 w e v M) (hb : w00.heap.size ≤ w0.heap.size) : Rows w00 w e v M :=
  ⟨h.own, fun k hk => Nat.le_trans hb (h.old k hk), fun x hx => ⟨(h.rd x hx).1, fun ad e => ⟨Nat.le_trans hb ((h.rd x hx).2 ad e).1, ((h.rd x hx).2 ad e).2⟩⟩⟩
theorem Rows.no {w0 w w1 : World} {e : TypeId} {v : Value} {M : List LkM} (h : Rows w0 w e v M) (hf : Fr No w w1) : Rows w0 w1 e v M := h.fr hf (fun _ _ k => k)
theorem Rows.snoc {w0 w w1 : World} {e : TypeId} {v v1 : Value} {M : List LkM} {x : LkM} (h : Rows w0 w e v M) (o : OwnK w1 e 4 v1 (M.length + 1) (M.flatMap lcells ++ lcells x)) (f : Fr (fun k => v.ownBlock = some k) w w1) (a : v1.ownBlock = v.ownBlock ∨ ∃ b, v1.ownBlock = some b ∧ w.heap.size ≤ b)
    (hw : w0.heap.size ≤ w.heap.size) (hx : Rd w x.2.1 (bys x.1.p)) (hx2 : ∀ ad, x.2.1 = some ad → w0.heap.size ≤ ad.block ∧ v.ownBlock ≠ some ad.block ∧ ad.block < w.heap.size) : Rows w0 w1 e v1 (M ++ [x]) := by
  have key : ∀ y : LkM, Rd w y.2.1 (bys y.1.p) → (∀ ad, y.2.1 = some ad → w0.heap.size ≤ ad.block ∧ v.ownBlock ≠ some ad.block ∧ ad.block < w.heap.size) → Rd w1 y.2.1 (bys y.1.p) ∧ ∀ ad, y.2.1 = some ad → w0.heap.size ≤ ad.block ∧ v1.ownBlock ≠ some ad.block ∧ ad.block < w1.heap.size := by
    intro y h1 h2
    refine ⟨h1.fr f (fun ad e => (h2 ad e).2.1), fun ad e => ⟨(h2 ad e).1, ?_, Nat.lt_of_lt_of_le (h2 ad e).2.2 f.size⟩⟩
    rcases a with e1 | ⟨b, e1, hb⟩
    · rw [e1]; exact (h2 ad e).2.1
    · rw [e1]; intro e2; cases e2; have := (h2 ad e).2.2; omega
  refine ⟨?_, ?_, ?_⟩
  · rw [List.length_append, List.flatMap_append]
    simpa using o
  · intro k hk
    rcases a with e1 | ⟨b, e1, hb⟩
    · rw [e1] at hk; exact h.old k hk
    · rw [e1] at hk; cases hk; omega
  · intro y hy
    rcases List.mem_append.1 hy with hy | hy
    · exact key y (h.rd y hy).1 (h.rd y hy).2
    · simp at hy
      subst hy
      exact key y hx hx2

theorem infoLock : (Try.prog.info? 42).map (fun i => (i.zero, i.size, i.bytes)) = some (some (.agg #[.int .i64 0, .int .i64 0, .int .i64 0, .slice none 0 0]), 4, 48) := by kernel_rfl

set_option maxRecDepth 20000 in
set_option maxHeartbeats 4000000 in
theorem decode_any {A : Option Addr} {c : Nat} {p : List UInt8} {w : World} (hl : Rd w A (bys p)) (hc : p.length ≤ c) (hlen : p.length ≤ 1000000) :
    Calls Try.prog 11 #[.slice A p.length c] w fun e w' => ∃ v M, e = .returned (.tuple #[v, .int .i64 (decIAll p).2]) ∧ M.map Prod.fst = (decIAll p).1 ∧ Rows w w' 42 v M ∧ Fr No w w' := by
  have HO := Lib.hid (open_any hl hc (by omega))
  have hbl : (body p).length ≤ p.length := by unfold body; split <;> simp
  clear hl
  go_enter Try.func11, Try.ntmps11
  go_wp2_with fail
  refine HO.out.mono ?_
  rintro e w1 ⟨v, rfl, O, N, F1⟩
  by_cases h0 : code p = 0
  · obtain ⟨l, hll⟩ : ∃ l, body p = l := ⟨_, rfl⟩
    have hD : Hid (decIAll p = ((decI l).1, ((decI l).2 : Int))) := by show decIAll p = _; unfold decIAll; rw [if_pos h0, hll]
    rw [h0]
    rw [hll] at O hbl
    obtain ⟨Q, cq, rfl, hQ, _, R⟩ := O.shape2
    rw [bys_length]
    have HN := Lib.hid (newReader_any (c := cq) R hQ (by omega))
    have HF1 := Lib.hid F1
    clear O N F1 R h0 HO hll hQ
    go_wp2_with fail
    refine HN.out.mono ?_
    rintro e w2 ⟨r, B2, d2, rfl, R2, hr, hB2, F2⟩
    have hrw : Hid (w.heap.size ≤ r) := by show w.heap.size ≤ r; exact Nat.le_trans HF1.out.size hr
    have HF2 := Lib.hid (HF1.out.trans F2 (fun _ k => k.elim))
    have R2' : RdAt w2 r B2 d2 l (0, false) := R2
    have HG := Lib.hid (get_at R2' 8 8 rfl)
    have hrl2 : Hid (r < w2.heap.size) := blk_lt R2.blk
    have hBl2 : Hid (∀ ad, B2 = some ad → ad.block < w2.heap.size) := R2.lt
    have nlt := gt_lt l (0, false) 8
    unfold decI at hD
    obtain ⟨n, hn⟩ : ∃ n, gt l (0, false) 8 = n := ⟨_, rfl⟩
    obtain ⟨s1, hs1⟩ : ∃ s1, nx l (0, false) 8 = s1 := ⟨_, rfl⟩
    rw [hn, hs1] at HG hD
    rw [hn] at nlt
    clear R2 R2' hr hB2 F2 HN HF1 hn hs1
    go_wp2_with fail
    refine HG.out.mono ?_
    rintro e w3 ⟨rfl, R3, F3⟩
    have hw3 : Hid (w2.heap.size ≤ w3.heap.size) := F3.size
    have HR3 := Lib.hid R3
    have HF3 := Lib.hid (HF2.out.trans F3 (fun i hi => .inr (by rw [show i = r from hi]; exact hrw.out)))
    have HM := Lib.hid (Rows.nil w3 w3 42)
    clear R3 F3 HF2 HG
    go_wp2
    go_loopg [7, 8] n (fun gk u i wr => ∃ (k : Nat) (v2 : Value) (M : List LkM), k + gk = n ∧ v2 = u ∧ i = .int .u64 (gk : Int) ∧ Hid (M.map Prod.fst = lkL l s1 k) ∧ Hid (Rows w3 wr 42 v2 M) ∧ Hid (RdAt wr r B2 d2 l (lkS l s1 k)) ∧ Hid (Fr (RS r) w3 wr))
    case atStart => exact ⟨0, _, [], by omega, rfl, rfl, rfl, HM, HR3, Fr.refl _ _⟩
    case round =>
      obtain ⟨k, v2, M, hk, rfl, rfl, HML, HMR, HR, HFr⟩ := hrel
      clear HM HR3
      have HFF : Hid (Fr No w wr) := HF3.out.trans HFr.out (fun i hi => .inr (by rw [show i = r from hi]; exact hrw.out))
      have hok := ok_any HR.out
      by_cases hf : (lkS l s1 k).2 = true
      · have HSF : Hid ((lkS l s1 n).2 = true) := by
          show (lkS l s1 n).2 = true
          have := lkS_fail hf gk
          rwa [hk] at this
        rw [hf] at hok
        have HOK := Lib.hid hok
        clear hok hf
        cases gk with
        | zero =>
          have hd2 : Hid (decIAll p = ([], 4)) := by show decIAll p = _; rw [hD.out, if_pos HSF.out]; rfl
          go_wp2_with fail
          refine HOK.out.mono ?_
          rintro e wk ⟨rfl, rfl⟩
          go_wp2
          go_ret2
          exact ⟨.slice none 0 0, [], by rw [hd2.out]; rfl, by rw [hd2.out]; rfl, Rows.nil _ _ _, HFF.out⟩
        | succ j =>
          have HOK2 := HOK
          go_wp2_with fail
          refine HOK.out.mono ?_
          rintro e wk ⟨rfl, rfl⟩
          have hd2 : Hid (decIAll p = ([], 4)) := by show decIAll p = _; rw [hD.out, if_pos HSF.out]; rfl
          go_wp2_with fail
          refine HOK2.out.mono ?_
          rintro e wk ⟨rfl, rfl⟩
          go_wp2
          go_ret2
          exact ⟨.slice none 0 0, [], by rw [hd2.out]; rfl, by rw [hd2.out]; rfl, Rows.nil _ _ _, HFF.out⟩
      · have hff : (lkS l s1 k).2 = false := by simpa using hf
        rw [hff] at hok
        have HOK := Lib.hid hok
        cases gk with
        | zero =>
          obtain rfl : k = n := by omega
          have HE := Lib.hid (rend_any HR.out)
          rw [hff] at HE
          by_cases hq : ends l (lkS l s1 k).1 false = true
          · rw [hq] at HE
            have hd2 : Hid (decIAll p = (lkL l s1 k, 0)) := by show decIAll p = _; rw [hD.out, if_neg hf, hff, if_pos hq]; rfl
            clear hok hf hq hff
            go_wp2_with fail
            refine HOK.out.mono ?_
            rintro e wk ⟨rfl, rfl⟩
            go_wp2_with fail
            refine HE.out.mono ?_
            rintro e wm ⟨rfl, FM⟩
            have HFM := Lib.hid (HFF.out.trans FM (fun _ k => k.elim))
            have HMM := Lib.hid ((HMR.out.no FM).base HF3.out.size)
            clear FM
            go_wp2
            go_ret2
            exact ⟨v2, M, by rw [hd2.out]; rfl, by rw [hd2.out]; exact HML.out, HMM.out, HFM.out⟩
          · have hqf : ends l (lkS l s1 k).1 false = false := by simpa using hq
            rw [hqf] at HE
            have hd2 : Hid (decIAll p = ([], 2)) := by show decIAll p = _; rw [hD.out, if_neg hf, hff, if_neg hq]; rfl
            clear hok hf hq hff hqf
            go_wp2_with fail
            refine HOK.out.mono ?_
            rintro e wk ⟨rfl, rfl⟩
            go_wp2_with fail
            refine HE.out.mono ?_
            rintro e wm ⟨rfl, FM⟩
            have HFM := Lib.hid (HFF.out.trans FM (fun _ k => k.elim))
            clear FM
            go_wp2
            go_ret2
            exact ⟨.slice none 0 0, [], by rw [hd2.out]; rfl, by rw [hd2.out]; rfl, Rows.nil _ _ _, HFM.out⟩
        | succ j =>
          have HLK := Lib.hid (lock_any HR.out)
          have hlen : M.length = k := by
            have := congrArg List.length HML.out
            rw [List.length_map, lkL_length] at this
            exact this
          have i7 : IntKind.u64.wrap (((j + 1 : Nat) : Int) - 1) = (j : Int) := by rw [IntKind.wrap_u64]; omega
          have i8 : (0 : Int) < ((j + 1 : Nat) : Int) := by omega
          obtain ⟨x, hx⟩ : ∃ x, lk l (lkS l s1 k) = x := ⟨_, rfl⟩
          rw [hx] at HLK
          have hnext : Hid (lkL l s1 k ++ [x] = lkL l s1 (k + 1)) := by show lkL l s1 k ++ [x] = lkL l s1 (k + 1); rw [← hx]; rfl
          have hnextS : Hid (lkN l (lkS l s1 k) = lkS l s1 (k + 1)) := rfl
          have HLN := Lib.hid hlen
          clear hok hf hff hx hlen
          go_wp2_with fail
          refine HOK.out.mono ?_
          rintro e wk ⟨rfl, rfl⟩
          go_wp2_with fail
          refine HLK.out.mono ?_
          rintro e wl ⟨A4, c4, rfl, RP, hA4, RL, FL⟩
          have hrF : Fr (RS r) w3 wl := HFr.out.trans FL (fun i hi => .inl hi)
          have hMl : Rows w3 wl 42 v2 M := HMR.out.fr FL (fun q hq e => by have h1 := hrl2.out; have h2 := hw3.out; have h3 : q = r := e; omega)
          have hpp : ∀ ad, A4 = some ad → w3.heap.size ≤ ad.block ∧ v2.ownBlock ≠ some ad.block ∧ ad.block < wl.heap.size := by
            intro ad e
            have h2 := hA4 ad e
            exact ⟨Nat.le_trans HFr.out.size h2.1, fun e2 => by have h1 := HMR.out.own.lt e2; omega, h2.2⟩
          have HMl := Lib.hid hMl
          have HrF := Lib.hid hrF
          have HRL := Lib.hid RL
          have HRP := Lib.hid RP
          have HPP := Lib.hid hpp
          clear RP hA4 RL FL hrF hMl hpp HLK
          unfold lval
          go_wp2_with (at_builtin; go_loud (refine own_append_k rfl (.tmp 29) (.tmp 32) 28 42 (.agg #[.int .i64 0, .int .i64 0, .int .i64 0, .slice none 0 0]) 4 48 rfl Try.underlying28 infoLock rfl (by decide) (by decide) _ M.length (M.flatMap lcells) #[.int .i64 (x.r : Int), .int .i64 (x.t : Int), .int .i64 x.e, .slice A4 x.p.length c4] _ rfl rfl rfl rfl ?h1 HMl.out.own ?hl ?_))
          case h1 => simp [Value.oneCell']
          case hl => rw [HLN.out]; omega
          intro v5 w5 o5 f5 a5
          have hrows := HMl.out.snoc (x := (x, A4, c4)) o5 f5 a5 HrF.out.size HRP.out HPP.out
          have hR5 := HRL.out.fr f5 (fun e => by have h1 := HMl.out.old r e; have h2 := hrl2.out; have h3 := hw3.out; omega) (fun ad e e2 => by have h1 := HMl.out.old _ e2; have h2 := hBl2.out ad e; have h3 := hw3.out; omega)
          rw [hnextS.out] at hR5
          have hF5 : Fr (RS r) w3 w5 := HrF.out.trans f5 (fun i hi => .inr (HMl.out.old i hi))
          have hML5 : (M ++ [(x, A4, c4)]).map Prod.fst = lkL l s1 (k + 1) := by rw [List.map_append, HML.out, ← hnext.out]; rfl
          have K1 := Lib.hid hrows
          have K2 := Lib.hid hR5
          have K3 := Lib.hid hF5
          have K4 := Lib.hid hML5
          clear hrows hR5 hF5 hML5 o5 f5 a5
          go_wp2
          go_roundg j
          case measure => omega
          case rel => exact ⟨k + 1, v5, M ++ [(x, A4, c4)], by omega, rfl, by go_num, K4, K1, K2, K3⟩
  · have hD : Hid (decIAll p = ([], code p)) := by show decIAll p = _; unfold decIAll; rw [if_neg h0]
    obtain ⟨k, hk⟩ : ∃ k, code p = k := ⟨_, rfl⟩
    rw [hk] at h0 hD ⊢
    obtain ⟨Q, cq, rfl, _, _, _⟩ := O.shape2
    clear O N HO hk
    go_wp2
    go_ret2
    exact ⟨.slice none 0 0, [], by rw [hD.out]; rfl, by rw [hD.out]; rfl, Rows.nil _ _ _, F1⟩
end Go.Proofs.Ythimhjdanmejmaa
