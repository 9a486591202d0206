/- Layer 9: an In: the program's, but for Keys. | Bytes in parts of thirty-two: slices.Chunk, as a range over a function. | Layer 9: an In's keys. -/
import Derived.Test.YtifnpphkplogaaaOutW
import Derived.Test.YtifnpphkplogaaaRange
import Derived.Deep.LoopGhost
namespace Go.Proofs.Ytifnpphkplogaaa
section
open Go.RowKit
theorem run_upto (A : Option Addr) (n c y : Nat) (hy : y ≤ c) (w : World) :
    (Instr.sliceAt 25 (.slice A n c) none (some (.int .i64 y)) none).run Try.prog w = .ok (.slice A y c) w := by
  have he : Try.prog.elem 25 = 5 := by simp [Program.elem, Try.underlying25]
  have ht' : Try.prog.underlying 25 = some (.slice (Try.prog.elem 25)) := by rw [he]; exact Try.underlying25
  obtain ⟨i, hi, hs⟩ := Option.map_eq_some_iff.1 (show (Try.prog.info? 5).map (·.size) = some 1 by kernel_rfl)
  have hso : (sizeOf (Try.prog.elem 25)).run Try.prog w = .ok 1 w := by rw [he]; simp [sizeOf, typeInfo, hi, hs]
  rw [run_sliceAt_slice (t := 25) (h := ht'), run_slice_h (t := 25) (a := A) (len := n) (cap := c) (ht := ht') (kh := .i64) (h := y) (h0 := by omega) (h2 := by omega), hso]
  have e0 : Option.map (fun x : Addr => x.add 0) A = A := by
    cases A with
    | none => rfl
    | some a => cases a with
      | mk b o s => cases s <;> simp [Addr.add]
  by_cases h0 : c = 0 <;> simp [Result.andThen, sliced, h0, e0]
/-- bytes that lie below B -/
def BsB (w : World) (B : Nat) (v : Value) (l : List UInt8) : Prop := ∃ A c, v = .slice A l.length c ∧ l.length ≤ c ∧ l.length ≤ 140737488351232 ∧ Rd8 w B A l
theorem BsB.bs {w : World} {B : Nat} {v : Value} {l : List UInt8} (h : BsB w B v l) (hB : B ≤ w.heap.size) : Bs w v l := by
  obtain ⟨A, c, h1, h2, h3, h4⟩ := h
  exact ⟨A, c, h1, h2, h3, h4.more hB⟩
theorem Bs.bsB {w : World} {v : Value} {l : List UInt8} (h : Bs w v l) : BsB w w.heap.size v l := h
theorem BsB.keep {w w' : World} {B : Nat} {v : Value} {l : List UInt8} (h : BsB w B v l) (hb : Below B w w') : BsB w' B v l := by
  obtain ⟨A, c, h1, h2, h3, h4⟩ := h
  exact ⟨A, c, h1, h2, h3, h4.below hb⟩
theorem BsB.nil (w : World) (B : Nat) : BsB w B (.slice none 0 0) [] := ⟨none, 0, rfl, Nat.le_refl _, by simp, Rd8.nil _ _ _⟩
theorem BsB.take {w : World} {B : Nat} {A : Option Addr} {n c : Nat} {l : List UInt8} (h : BsB w B (.slice A n c) l) (k : Nat) (hk : k ≤ n) : BsB w B (.slice A k c) (l.take k) := by
  obtain ⟨A', c', h1, h2, h3, h4⟩ := h
  injection h1 with e1 e2 e3
  subst e1; subst e2; subst e3
  have e : (l.take k).length = k := by simp; omega
  exact ⟨A, c, by rw [e], by omega, by omega, h4.take k⟩
theorem BsB.drop {w : World} {B : Nat} {A : Option Addr} {n c : Nat} {l : List UInt8} (h : BsB w B (.slice A n c) l) (k : Nat) (hk : k ≤ n) : BsB w B (.slice (subA A c k) (n - k) (c - k)) (l.drop k) := by
  obtain ⟨A', c', h1, h2, h3, h4⟩ := h
  injection h1 with e1 e2 e3
  subst e1; subst e2; subst e3
  have e : (l.drop k).length = l.length - k := by simp
  exact ⟨_, _, by rw [e], by omega, by omega, h4.sub c k h2 hk⟩
def InIs (w : World) (B g : Nat) (i : InP) : Prop := B ≤ g ∧ ∃ v, RowIs w g #[v, .int .i64 i.e] ∧ BsB w B v i.b
theorem InIs.lt {w : World} {B g : Nat} {i : InP} (h : InIs w B g i) : g < w.heap.size := by obtain ⟨_, v, h1, _⟩ := h; exact h1.lt
theorem InIs.step {w w' : World} {B g : Nat} {i : InP} (h : InIs w B g i) (hb : Below w.heap.size w w') : InIs w' B g i := by
  have hl := h.lt
  obtain ⟨h0, v, h1, h2⟩ := h; exact ⟨h0, v, h1.step hb, h2.keep (hb.mono (by omega))⟩
theorem upd_below {w w' : World} {B x : Nat} (hu : Upd x w w') (hx : B ≤ x) (hB : B ≤ w.heap.size) : Below B w w' := hu.below (Below.refl _ _) hx hB
theorem InIs.upd {w w' : World} {B g x : Nat} {i : InP} (h : InIs w B g i) (hu : Upd x w w') (hx : B ≤ x) (hg : g ≠ x) : InIs w' B g i := by
  have hl := h.lt
  obtain ⟨h0, v, h1, h2⟩ := h; exact ⟨h0, v, h1.upd hu hg, h2.keep (upd_below hu hx (by omega))⟩
theorem InIs.setRow {w : World} {B g r : Nat} {i : InP} (h : InIs w B g i) (hr : B ≤ r) (hg : g ≠ r) (cs : Array Value) : InIs (w.setRow r cs) B g i := by
  obtain ⟨h0, v, h1, h2⟩ := h; exact ⟨h0, v, h1.set_ne hg cs, h2.keep (below_setRow (Below.refl _ _) hr cs)⟩
def InTo (B g : Nat) (i' : InP) (w : World) (e : Ending) (w' : World) : Prop := e = .returned (.tuple #[]) ∧ InIs w' B g i' ∧ Upd g w w'
theorem infail_any (B g : Nat) (i : InP) (er : Int) (w : World) (h : InIs w B g i) :
    Calls Try.prog 74 #[.pointer (some ⟨g, 0, none⟩), .int .i64 er] w (InTo B g (failP i er) w) := by
  have hgl := h.lt
  obtain ⟨hBg, v, hr, hv⟩ := h
  obtain ⟨c0, c1⟩ := row2_cells hr
  have f0 := hr.fz 0
  have f1 := hr.fz 1
  by_cases h0 : i.e = 0
  · have e0 : ((i.e : Int) == 0) = true := by simpa using h0
    have ep : failP i er = ⟨[], er⟩ := by unfold failP; rw [if_pos h0]
    rw [ep]
    go_enter Try.func74, Try.ntmps74
    go_wp2_with fail
    go_end0
    exact ⟨rfl, ⟨hBg, _, row2_put1 (row2_put0 hr), BsB.nil _ _⟩, ((Upd.refl g w).put 0 _).put 1 _⟩
  · have e0 : ((i.e : Int) == 0) = false := by simpa using h0
    have ep : failP i er = i := by unfold failP; rw [if_neg h0]
    rw [ep]
    go_enter Try.func74, Try.ntmps74
    go_wp2_with fail
    go_end0
    exact ⟨rfl, ⟨hBg, v, hr, hv⟩, Upd.refl g w⟩
def TakeIn (B g : Nat) (l : List UInt8) (i' : InP) (w : World) (e : Ending) (w' : World) : Prop := ∃ v, e = .returned v ∧ BsB w' B v l ∧ InIs w' B g i' ∧ Upd g w w'
def BsIn (B g : Nat) (l : List UInt8) (i' : InP) (w : World) (e : Ending) (w' : World) : Prop := ∃ v, e = .returned v ∧ Bs w' v l ∧ InIs w' B g i' ∧ Upd g w w'
set_option maxRecDepth 100000 in
set_option maxHeartbeats 1600000 in
theorem intake_any (B g : Nat) (i : InP) (n : Nat) (w : World) (h : InIs w B g i) :
    Calls Try.prog 76 #[.pointer (some ⟨g, 0, none⟩), .int .i64 n] w (TakeIn B g (takeP i n).1 (takeP i n).2 w) := by
  have HF := Lib.hid (infail_any B g i 3)
  have HI := Lib.hid h
  have hgl := h.lt
  obtain ⟨hBg, v, hr, hv⟩ := h
  obtain ⟨c0, c1⟩ := row2_cells hr
  have f0 := hr.fz 0
  obtain ⟨A, c, rfl, hcc, -, -⟩ := id hv
  replace hcc : i.b.length ≤ c := hcc
  by_cases h0 : i.e = 0
  · have e0 : ((i.e : Int) != 0) = false := by simpa using h0
    by_cases hn : n ≤ i.b.length
    · have ep : takeP i n = (i.b.take n, ⟨i.b.drop n, 0⟩) := by unfold takeP; rw [if_pos h0, if_pos hn]
      rw [ep]
      have i1 : ¬ (i.b.length : Int) < n := by omega
      have i2 : (0 : Int) ≤ n := by omega
      have i3 : (n : Int) ≤ c := by omega
      have hnc : n ≤ c := by omega
      have hto : ∀ w, (Instr.sliceAt 25 (.slice A i.b.length c) none (some (.int .i64 n)) none).run Try.prog w = .ok (.slice A n c) w := fun w => run_upto A _ c n hnc w
      have hfrom : ∀ w, (Instr.sliceAt 25 (.slice A i.b.length c) (some (.int .i64 n)) none none).run Try.prog w = .ok (.slice (subA A c n) (i.b.length - n) (c - n)) w := run_from Try.underlying25 (by kernel_rfl) A _ c n hn
      go_enter Try.func76, Try.ntmps76
      go_wp2_with fail
      go_ret
      have hu := (Upd.refl g w).put 0 (.slice (subA A c n) (i.b.length - n) (c - n))
      have hbb := upd_below hu hBg (by omega)
      exact ⟨_, rfl, (hv.take n hn).keep hbb, ⟨hBg, _, by rw [h0] at hr; have := row2_put0 (x := .slice (subA A c n) (i.b.length - n) (c - n)) hr; exact this, (hv.drop n hn).keep hbb⟩, hu⟩
    · have ep : takeP i n = ([], ⟨[], 3⟩) := by unfold takeP; rw [if_pos h0, if_neg hn]
      have ef : failP i 3 = ⟨[], 3⟩ := by unfold failP; rw [if_pos h0]
      rw [ep]
      rw [ef] at HF
      have i1 : (i.b.length : Int) < n := by omega
      go_enter Try.func76, Try.ntmps76
      go_wp2_with fail
      refine (HF.out _ HI.out).mono ?_
      rintro e w2 ⟨rfl, hi2, hu⟩
      obtain ⟨-, v2, hr2, hv2⟩ := id hi2
      obtain ⟨c02, c12⟩ := row2_cells hr2
      clear c0 c1 f0
      go_wp2_with fail
      go_ret
      exact ⟨_, rfl, BsB.nil _ _, hi2, hu⟩
  · have e0 : ((i.e : Int) != 0) = true := by simpa using h0
    have ep : takeP i n = ([], i) := by unfold takeP; rw [if_neg h0]
    have ef : failP i 3 = i := by unfold failP; rw [if_neg h0]
    rw [ep]
    rw [ef] at HF
    by_cases hn : n ≤ i.b.length
    · have i1 : ¬ (i.b.length : Int) < n := by omega
      go_enter Try.func76, Try.ntmps76
      go_wp2_with fail
      go_ret
      exact ⟨_, rfl, BsB.nil _ _, HI.out, Upd.refl g w⟩
    · have i1 : (i.b.length : Int) < n := by omega
      go_enter Try.func76, Try.ntmps76
      go_wp2_with fail
      refine (HF.out _ HI.out).mono ?_
      rintro e w2 ⟨rfl, hi2, hu⟩
      obtain ⟨-, v2, hr2, hv2⟩ := id hi2
      obtain ⟨c02, c12⟩ := row2_cells hr2
      clear c0 c1 f0
      go_wp2_with fail
      go_ret
      exact ⟨_, rfl, BsB.nil _ _, hi2, hu⟩
def NumIn (B g : Nat) (n : UInt64) (i' : InP) (w : World) (e : Ending) (w' : World) : Prop := e = .returned (.int .u64 (n64 n)) ∧ InIs w' B g i' ∧ Upd g w w'
set_option maxRecDepth 100000 in
theorem innum_any (B g : Nat) (i : InP) (k : Int) (w : World) (h : InIs w B g i) :
    Calls Try.prog 33 #[.pointer (some ⟨g, 0, none⟩), .int .i64 k] w (NumIn B g (inumP i k).1 (inumP i k).2 w) := by
  by_cases hk : sizeOk k = true
  · have ep : inumP i k = (ofHighB (takeP i k.toNat).1, (takeP i k.toNat).2) := by unfold inumP; rw [if_pos hk]
    rw [ep]
    obtain ⟨m, rfl⟩ : ∃ m : Nat, k = m := ⟨k.toNat, by unfold sizeOk at hk; rw [decide_eq_true_eq] at hk; omega⟩
    rw [Int.toNat_natCast]
    have HT := Lib.hid (intake_any B g i m)
    clear ep
    go_enter Try.func33, Try.ntmps33
    go_wp2_with fail
    refine (number_any m _).mono ?_
    rintro e w1 ⟨rfl, rfl⟩
    rw [hk]
    go_wp2_with fail
    refine (HT.out _ h).mono ?_
    rintro e w2 ⟨v2, rfl, hv2, hi2, hu2⟩
    have hsz := hi2.lt; have hBg := hi2.1
    go_wp2_with fail
    refine (ofHigh_b (hv2.bs (by omega))).mono ?_
    rintro e w3 ⟨rfl, rfl⟩
    go_wp2_with fail
    go_ret
    exact ⟨rfl, hi2, hu2⟩
  · have hkf : sizeOk k = false := by simpa using hk
    have ep : inumP i k = (0, failP i 51) := by unfold inumP; rw [if_neg hk]
    rw [ep]
    clear ep
    go_enter Try.func33, Try.ntmps33
    go_wp2_with fail
    refine (number_any k _).mono ?_
    rintro e w1 ⟨rfl, rfl⟩
    rw [hkf]
    go_wp2_with fail
    refine (infail_any B g i 51 _ h).mono ?_
    rintro e w2 ⟨rfl, hi2, hu2⟩
    go_wp2_with fail
    go_ret
    exact ⟨by rw [n64_def]; rfl, hi2, hu2⟩
theorem ofHighB_lt (l : List UInt8) (k : Nat) (h : l.length ≤ k) (h8 : k ≤ 8) : (ofHighB l).toNat < 2 ^ (8 * k) := by
  rw [ofHighB_def, ofHighK_val _ _ (by omega)]
  have := highV_lt l (min l.length 8)
  exact Nat.lt_of_lt_of_le this (Nat.pow_le_pow_right (by omega) (by omega))
theorem takeP_len (i : InP) (n : Nat) : (takeP i n).1.length ≤ n := by
  unfold takeP; split
  · split
    · simp; omega
    · simp
  · simp
theorem inum2_lt (i : InP) : (inumP i 2).1.toNat ≤ 65535 := by
  unfold inumP
  rw [if_pos (by decide)]
  have := ofHighB_lt (takeP i (2 : Int).toNat).1 2 (takeP_len _ _) (by omega)
  have e : (2 : Nat) ^ (8 * 2) = 65536 := by decide
  exact Nat.le_of_lt_succ (by omega)
set_option maxRecDepth 100000 in
set_option maxHeartbeats 1600000 in
theorem inbytes_any (B g : Nat) (i : InP) (most : Int) (w : World) (h : InIs w B g i) :
    Calls Try.prog 35 #[.pointer (some ⟨g, 0, none⟩), .int .i64 most] w (BsIn B g (ibytesP i most).1 (ibytesP i most).2 w) := by
  have HN := Lib.hid (innum_any B g i 2)
  have hm := inum2_lt i
  have hnn : n64 (inumP i 2).1 = ((inumP i 2).1.toNat : Int) := n64_def _
  unfold ibytesP ilimP
  obtain ⟨m, hmm⟩ : ∃ m, m = (inumP i 2).1.toNat := ⟨_, rfl⟩
  unfold NumIn at HN
  rw [hnn] at HN
  rw [← hmm] at hm HN ⊢
  obtain ⟨j, hj⟩ : ∃ j, j = (inumP i 2).2 := ⟨_, rfl⟩
  rw [← hj] at HN ⊢
  clear hmm hj hnn
  have i1 : (m : Int) ≤ 9223372036854775807 := by omega
  by_cases hlim : min most 4000 < (m : Int)
  · go_enter Try.func35, Try.ntmps35
    go_wp2_with fail
    refine (HN.out _ h).mono ?_
    rintro e w1 ⟨rfl, hi1, hu1⟩
    go_wp2_with fail
    refine (infail_any B g j 2 _ hi1).mono ?_
    rintro e w2 ⟨rfl, hi2, hu2⟩
    go_wp2_with fail
    refine (intake_any B g _ m _ hi2).mono ?_
    rintro e w3 ⟨v3, rfl, hv3, hi3, hu3⟩
    go_wp2_with fail
    have hsz := hi3.lt; have hBg := hi3.1
    refine (clone_bs (hv3.bs (by omega))).mono ?_
    rintro e w4 ⟨v4, rfl, hv4, hb4⟩
    go_wp2_with fail
    go_ret
    exact ⟨v4, rfl, hv4, hi3.step hb4, ((hu1.trans hu2).trans hu3).then hb4⟩
  · go_enter Try.func35, Try.ntmps35
    go_wp2_with fail
    refine (HN.out _ h).mono ?_
    rintro e w1 ⟨rfl, hi1, hu1⟩
    go_wp2_with fail
    refine (intake_any B g _ m _ hi1).mono ?_
    rintro e w3 ⟨v3, rfl, hv3, hi3, hu3⟩
    go_wp2_with fail
    have hsz := hi3.lt; have hBg := hi3.1
    refine (clone_bs (hv3.bs (by omega))).mono ?_
    rintro e w4 ⟨v4, rfl, hv4, hb4⟩
    go_wp2_with fail
    go_ret
    exact ⟨v4, rfl, hv4, hi3.step hb4, (hu1.trans hu3).then hb4⟩
theorem keyOf_B (l : List UInt8) : keyOf l = keyOfB l := by unfold keyOf keyOfB; rw [zeros_def]
def KeyIn (B g : Nat) (K : List UInt8) (i' : InP) (w : World) (e : Ending) (w' : World) : Prop := e = .returned (.agg (u8s K)) ∧ InIs w' B g i' ∧ Upd g w w'
set_option maxRecDepth 100000 in
set_option maxHeartbeats 1600000 in
theorem inkey_any (B g : Nat) (i : InP) (w : World) (h : InIs w B g i) :
    Calls Try.prog 37 #[.pointer (some ⟨g, 0, none⟩)] w (KeyIn B g (ikeyP i).1 (ikeyP i).2 w) := by
  have HT := Lib.hid (intake_any B g i 32)
  unfold ikeyP
  obtain ⟨l, hl⟩ : ∃ l, l = (takeP i 32).1 := ⟨_, rfl⟩
  obtain ⟨j, hj⟩ : ∃ j, j = (takeP i 32).2 := ⟨_, rfl⟩
  rw [← hl, ← hj] at HT ⊢
  clear hl hj
  have hkl := keyOfB_length l
  obtain ⟨K, hK⟩ : ∃ K, K = keyOfB l := ⟨_, rfl⟩
  rw [← hK] at hkl ⊢
  have HK := Lib.hid hK
  have hgl := h.lt
  have hBg := h.1
  have hq : Below w.heap.size w (w.alloc (.cells (u8s (zeros 32)) 72)) := (by repeat (first | with_reducible exact Below.refl _ _ | with_reducible assumption | refine Below.drew ?_ | refine below_drewN ?_ | refine Below.alloc ?_ (by first | omega | (simp; done) | (simp; omega)) _ | refine below_setRow ?_ (by omega) _ | refine Below.setCell ?_ (by first | omega | (simp; done) | (simp; omega)) _))
  clear hK
  go_enter Try.func37, Try.ntmps37
  go_wp2_with fail
  refine (HT.out _ (h.step hq)).mono ?_
  rintro e w1 ⟨v1, rfl, hv1, hi1, hu1⟩
  have hl1 := hi1.lt
  go_wp2_with fail
  refine (toKey_bs (hv1.bs (by omega))).mono ?_
  rintro e w2 ⟨rfl, hb2⟩
  rw [keyOf_B, ← HK.out]
  have R0 : RowIs w2 w.heap.size (u8s (zeros 32)) := ((RowIs.new _ _ _).upd hu1 (by omega)).step hb2
  have hz2 := R0.lt
  have hi2 := hi1.step hb2
  have hu2 := (Upd.of hq).trans (hu1.then hb2)
  have R0h := R0.has; have R0r := R0.row; have R0l := R0.lt
  go_wp2_with fail
  refine bodyPost_retRow 2 _ w.heap.size 32 rfl rfl (by omega) (by kernel_rfl) (by kernel_rfl) ?_ rfl ?_
  · go_simp
  · go_simp
    have hi3 := hi2.setRow (r := w.heap.size) (by omega) (by omega) (u8s K)
    exact ⟨rfl, hi3.step (by repeat (first | with_reducible exact Below.refl _ _ | with_reducible assumption | refine Below.drew ?_ | refine below_drewN ?_ | refine Below.alloc ?_ (by first | omega | (simp; done) | (simp; omega)) _ | refine below_setRow ?_ (by omega) _ | refine Below.setCell ?_ (by first | omega | (simp; done) | (simp; omega)) _)), (hu2.setRow (Nat.le_refl _) _).then (by repeat (first | with_reducible exact Below.refl _ _ | with_reducible assumption | refine Below.drew ?_ | refine below_drewN ?_ | refine Below.alloc ?_ (by first | omega | (simp; done) | (simp; omega)) _ | refine below_setRow ?_ (by omega) _ | refine Below.setCell ?_ (by first | omega | (simp; done) | (simp; omega)) _))⟩
set_option maxRecDepth 100000 in
theorem inend_any (B g : Nat) (i : InP) (w : World) (h : InIs w B g i) :
    Calls Try.prog 42 #[.pointer (some ⟨g, 0, none⟩)] w fun e w' => e = .returned (.int .i64 (endP i)) ∧ w = w' := by
  have hgl := h.lt
  obtain ⟨hBg, v, hr, hv⟩ := h
  obtain ⟨c0, c1⟩ := row2_cells hr
  obtain ⟨A, c, rfl, -⟩ := id hv
  by_cases h0 : i.e = 0
  · have e0 : ((i.e : Int) == 0) = true := by simpa using h0
    by_cases hb : i.b = []
    · have ep : endP i = 0 := by unfold endP; rw [if_neg (by simp [hb])]; exact h0
      have i1 : ¬ (0 : Int) < i.b.length := by rw [hb]; simp
      rw [ep]
      go_enter Try.func42, Try.ntmps42
      go_wp2_with fail
      go_ret
      exact ⟨rfl, rfl⟩
    · have ep : endP i = 50 := by unfold endP; rw [if_pos ⟨h0, hb⟩]
      have i1 : (0 : Int) < i.b.length := by have := List.length_pos_iff.2 hb; omega
      rw [ep]
      go_enter Try.func42, Try.ntmps42
      go_wp2_with fail
      go_ret
      exact ⟨rfl, rfl⟩
  · have e0 : ((i.e : Int) == 0) = false := by simpa using h0
    have ep : endP i = i.e := by unfold endP; rw [if_neg (by simp [h0])]
    rw [ep]
    go_enter Try.func42, Try.ntmps42
    go_wp2_with fail
    go_ret
    exact ⟨rfl, rfl⟩
def ReadTo (b : List UInt8) (w : World) (e : Ending) (w' : World) : Prop := ∃ g, e = .returned (.pointer (some ⟨g, 0, none⟩)) ∧ InIs w' w.heap.size g ⟨b, 0⟩ ∧ Below w.heap.size w w'
theorem read_any (v : Value) (b : List UInt8) (w : World) (hv : Bs w v b) : Calls Try.prog 32 #[v] w (ReadTo b w) := by
  obtain ⟨A, c, rfl, -⟩ := id hv
  have hq : Below w.heap.size w (w.alloc (.cells #[.slice A b.length c, .int .i64 0] 113)) := (by repeat (first | with_reducible exact Below.refl _ _ | with_reducible assumption | refine Below.drew ?_ | refine below_drewN ?_ | refine Below.alloc ?_ (by first | omega | (simp; done) | (simp; omega)) _ | refine below_setRow ?_ (by omega) _ | refine Below.setCell ?_ (by first | omega | (simp; done) | (simp; omega)) _))
  have hr : RowIs (w.alloc (.cells #[.slice A b.length c, .int .i64 0] 113)) w.heap.size #[.slice A b.length c, .int .i64 0] := RowIs.new _ _ _
  go_enter Try.func32, Try.ntmps32
  go_wp2_with fail
  go_ret
  exact ⟨_, rfl, ⟨Nat.le_refl _, _, hr, hv.bsB.keep hq⟩, hq⟩
end
section
open Go.RowKit Go.Shelf
attribute [local go_sem] Oper.semAt_some
theorem run_mid3 (A : Option Addr) (n c x y : Nat) (hx : x ≤ y) (hy : y ≤ c) (w : World) :
    (Instr.sliceAt 25 (.slice A n c) (some (.int .i64 x)) (some (.int .i64 y)) (some (.int .i64 y))).run Try.prog w = .ok (.slice (subA A y x) (y - x) (y - x)) w := by
  have he : Try.prog.elem 25 = 5 := by simp [Program.elem, Try.underlying25]
  have ht' : Try.prog.underlying 25 = some (.slice (Try.prog.elem 25)) := by rw [he]; exact Try.underlying25
  obtain ⟨i, hi, hs⟩ := Option.map_eq_some_iff.1 (show (Try.prog.info? 5).map (·.size) = some 1 by kernel_rfl)
  have hso : (sizeOf (Try.prog.elem 25)).run Try.prog w = .ok 1 w := by rw [he]; simp [sizeOf, typeInfo, hi, hs]
  rw [run_sliceAt_slice (t := 25) (h := ht'), run_slice_lhm (t := 25) (a := A) (len := n) (cap := c) (ht := ht') (kl := .i64) (kh := .i64) (km := .i64) (l := x) (h := y) (m := y) (h0 := by omega) (h1 := by omega) (h2 := by omega) (h3 := by omega), hso]
  simp only [Result.andThen, sliced, Int.toNat_natCast, subA_def]
theorem run_mid {P : Program} {t e : TypeId} (ht : P.underlying t = some (.slice e)) (hsz : (P.info? e).map (·.size) = some 1) (A : Option Addr) (n c x y : Nat) (hx : x ≤ y) (hy : y ≤ c) (w : World) :
    (Instr.sliceAt t (.slice A n c) (some (.int .i64 x)) (some (.int .i64 y)) none).run P w = .ok (.slice (subA A c x) (y - x) (c - x)) w := by
  have he : P.elem t = e := by simp [Program.elem, ht]
  have ht' : P.underlying t = some (.slice (P.elem t)) := by rw [he]; exact ht
  obtain ⟨i, hi, hs⟩ := Option.map_eq_some_iff.1 hsz
  have hso : (sizeOf (P.elem t)).run P w = .ok 1 w := by rw [he]; simp [sizeOf, typeInfo, hi, hs]
  rw [run_sliceAt_slice (t := t) (h := ht'), run_slice_lh (t := t) (a := A) (len := n) (cap := c) (ht := ht') (kl := .i64) (kh := .i64) (l := x) (h := y) (h0 := by omega) (h1 := by omega) (h2 := by omega), hso]
  simp only [Result.andThen, sliced, Int.toNat_natCast, subA_def]
theorem BsB.midB {w : World} {B : Nat} {A : Option Addr} {n c : Nat} {l : List UInt8} (h : BsB w B (.slice A n c) l) (x e : Nat) (hx : x + e ≤ l.length) : BsB w B (.slice (subA A c x) e (c - x)) ((l.drop x).take e) := by
  obtain ⟨A', c', h1, h2, h3, h4⟩ := id h
  injection h1 with e1 e2 e3
  subst e2
  exact (h.drop x (by omega)).take e (by omega)
theorem BsB.part {w : World} {B : Nat} {A : Option Addr} {n c : Nat} {l : List UInt8} (h : BsB w B (.slice A n c) l) (x e : Nat) (hx : x + e ≤ n) : BsB w B (.slice (subA A (x + e) x) e e) ((l.drop x).take e) := by
  obtain ⟨A', c', h1, h2, h3, h4⟩ := h
  injection h1 with e1 e2 e3
  subst e1; subst e2; subst e3
  have ee : ((l.drop x).take e).length = e := by simp; omega
  refine ⟨_, _, by rw [ee], by omega, by omega, ?_⟩
  have h5 := (h4.take (x + e)).sub (x + e) x (by simp; omega) (by simp; omega)
  have e6 : (l.take (x + e)).drop x = (l.drop x).take e := by rw [List.drop_take]; congr 1; omega
  rw [← e6]; exact h5
def chunkF (a b : Nat) : Value := .func (.func 102) #[] #[.pointer (some ⟨a, 0, none⟩), .pointer (some ⟨b, 0, none⟩)]
theorem chunk_any (A : Option Addr) (n c : Nat) (w : World) :
    Calls Try.prog 81 #[.slice A n c, .int .i64 32] w fun e w' => e = .returned (chunkF w.heap.size (w.heap.size + 1)) ∧ w' = (w.alloc (.cells #[.slice A n c] 25)).alloc (.cells #[.int .i64 32] 3) := by
  go_enter Try.func81, Try.ntmps81
  go_wp2_with fail
  go_ret
  exact ⟨rfl, rfl⟩
/-- what a round keeps: all that lay below B0, but for block ob -/
structure BKp (B0 ob : Nat) (A B : World) : Prop where
  size : A.heap.size ≤ B.heap.size
  same : ∀ r, r < B0 → r ≠ ob → B.heap[r]? = A.heap[r]?
theorem RowIs.kp {B0 ob r : Nat} {A B : World} {cs : Array Value} (h : RowIs A r cs) (hk : BKp B0 ob A B) (h1 : r < B0) (h2 : r ≠ ob) : RowIs B r cs := by
  have e := hk.same r h1 h2
  exact ⟨by unfold IsRow; rw [e]; exact h.row, by unfold rowOf; rw [e]; exact h.has⟩
theorem BKp.trans {B0 ob : Nat} {A B C : World} (h : BKp B0 ob A B) (k : BKp B0 ob B C) : BKp B0 ob A C :=
  ⟨Nat.le_trans h.size k.size, fun r h1 h2 => (k.same r h1 h2).trans (h.same r h1 h2)⟩
theorem BKp.putObj {B0 ob l : Nat} (W : World) (o : Obj) (hl : B0 ≤ l) : BKp B0 ob W (W.putObj l o) := ⟨by simp, fun r h1 _ => World.putObj_heap_other (by omega)⟩
theorem keepsOthers_below {A B : World} (h : Below A.heap.size A B) : KeepsOthers A B := ⟨h.size, fun k o hk _ => by rw [h.block k (Array.getElem?_eq_some_iff.1 hk).1]; exact hk⟩
def CSt (A B : World) : Prop := Below A.heap.size A B
def CArg (A : Option Addr) (k : Nat) (vs : Array Value) (_ : World) : Prop := vs = #[.slice (subA A (32 * k + 32) (32 * k)) 32 32]
structure CRows (A : Option Addr) (N c bs bn : Nat) (W : World) : Prop where
  src : RowIs W bs #[.slice A (32 * N) c]
  size : RowIs W bn #[.int .i64 32]
theorem CRows.step {A : Option Addr} {N c bs bn : Nat} {W W' : World} (h : CRows A N c bs bn W) (hb : Below W.heap.size W W') : CRows A N c bs bn W' := ⟨h.src.step hb, h.size.step hb⟩
theorem RowIs.cell0 {w : World} {g : Nat} {v : Value} (h : RowIs w g #[v]) : w.cell? ⟨g, 0, none⟩ = some v := by
  obtain ⟨t, ht⟩ := h.row.heap
  rw [h.has] at ht
  rw [cell_of_row w g 0 _ t (0, 0) ht]; rfl
set_option maxRecDepth 100000 in
set_option maxHeartbeats 1600000 in
theorem chunk1_by (A : Option Addr) (c bs bn B0 ob N n : Nat) (w : World) (h0 : CRows A N c bs bn w) (hc : 32 * N ≤ c) (hN : N ≤ 1000000)
    (hB : w.heap.size ≤ B0) (hob : bs ≠ ob ∧ bn ≠ ob) :
    SeqBy Fence.wide n Try.prog 102 #[.pointer (some ⟨bs, 0, none⟩), .pointer (some ⟨bn, 0, none⟩)] (CArg A) CSt (fun _ => BKp B0 ob) (fun k => k = N) False N w := by
  intro l J Jx W hW hJ hJx hY hinf hj0
  refine callsIn_wide.2 ?_
  have hrow := h0.step hW
  have hs1 : bs < B0 := Nat.lt_of_lt_of_le h0.src.lt hB
  have hs2 : bn < B0 := Nat.lt_of_lt_of_le h0.size.lt hB
  clear h0 hB
  have HY := Lib.hid hY
  have HJ := Lib.hid hJ
  have HOB := Lib.hid hob
  clear hY hinf hJ hJx hob
  go_enter Try.func102, Try.ntmps102
  go_wp2_with fail
  go_loopg [4] N (fun m i wr => ∃ k s, m + k = N ∧ i = .int .i64 ((32 * k : Nat) : Int) ∧ J k s wr ∧ s ≤ wr.heap.size ∧ CRows A N c bs bn wr)
  case atStart => exact ⟨0, W.heap.size, by omega, rfl, hj0, Nat.le_refl _, hrow⟩
  case round =>
    obtain ⟨k, s, hk, rfl, hj, hs, hr⟩ := hrel
    obtain ⟨m, hm⟩ : ∃ m, m = 32 * k := ⟨_, rfl⟩
    rw [← hm]
    have HM := Lib.hid hm
    have hc0 := hr.src.cell0
    have hc1 := hr.size.cell0
    by_cases hlt : k < N
    · have i1 : (m : Int) < 32 * (N : Int) := by omega
      have hfrom : ∀ w, (Instr.sliceAt 25 (.slice A (32 * N) c) (some (.int .i64 m)) none none).run Try.prog w = .ok (.slice (subA A c m) (32 * N - m) (c - m)) w := run_from Try.underlying25 (by kernel_rfl) A _ c m (by omega)
      have hmin : min (32 : Int) ((32 * N - m : Nat) : Int) = 32 := by omega
      have hmid : ∀ w, (Instr.sliceAt 25 (.slice A (32 * N) c) (some (.int .i64 m)) (some (.int .i64 ((m : Int) + 32))) (some (.int .i64 ((m : Int) + 32)))).run Try.prog w = .ok (.slice (subA A (m + 32) m) 32 32) w := fun w => by
        have := run_mid3 A (32 * N) c m (m + 32) (by omega) (by omega) w
        rw [show ((m + 32 : Nat) : Int) = (m : Int) + 32 by omega, show m + 32 - m = 32 by omega] at this
        exact this
      clear hm
      refine (wpIn_wide (n := n)).1 ?_
      gi_wp2_with fail
      refine wpIn_region_lex (.inl rfl) [] (by kernel_rfl) (by decide +kernel) (by decide +kernel) ?_
      go_wp2_with (first | (refine wp_region_lex [] (by kernel_rfl) (by decide +kernel) ?_) | (refine wpLex_nil ?_) | (refine wpLex_pure rfl (fun _ _ => ?_); go_simp; try go_bits) | (refine wpLex_read rfl (fun _ _ => ?_); go_simp; try go_bits) | (refine wpLex_loud rfl (fun _ _ => ?_)))
      have hd : Below wr.heap.size wr wr.drew := (by repeat (first | with_reducible exact Below.refl _ _ | with_reducible assumption | refine Below.drew ?_ | refine below_drewN ?_ | refine Below.alloc ?_ (by first | omega | (simp; done) | (simp; omega)) _ | refine below_setRow ?_ (by omega) _ | refine Below.setCell ?_ (by first | omega | (simp; done) | (simp; omega)) _))
      have hj1 := HJ.out k s _ _ hj hd
      replace hr := hr.step hd
      replace hc0 := hr.src.cell0
      replace hc1 := hr.size.cell0
      replace hs : s ≤ wr.drew.heap.size := hs
      clear hfrom hj hd hmin
      generalize wr.drew = w1 at *
      obtain ⟨fn, tmps, assign, body, hy, hR⟩ := HY.out k s #[.slice (subA A (m + 32) m) 32 32] w1 hlt hj1 hs (by unfold CArg; rw [HM.out])
      gi_wp2_with fail
      refine ⟨(fun h => by cases h), hR.mono ?_⟩
      rintro e W3 (⟨rfl, hj3, hk3⟩ | ⟨rfl, hx3⟩)
      · replace hr : CRows A N c bs bn W3 := ⟨hr.src.kp hk3 hs1 HOB.out.1, hr.size.kp hk3 hs2 HOB.out.2⟩
        clear hy hR hj1 hs hk3 hc0 hc1 hmid
        have hc0 := hr.src.cell0
        have hc1 := hr.size.cell0
        gi_wp2_with fail
        go_roundg (gk - 1)
        case measure => omega
        case rel =>
          have := HM.out
          exact ⟨k + 1, W3.heap.size, by omega, by congr 1; omega, hj3, Nat.le_refl _, hr⟩
      · clear hy hR hj1 hs hc0 hc1 hmid
        gi_wp2_with fail
        refine bodyPost_ret (results_none rfl _ _ _) rfl ?_
        exact ⟨⟨_, rfl⟩, .inr ⟨k + 1, hx3⟩⟩
    · have hkN : k = N := by omega
      have i1 : ¬ (m : Int) < 32 * (N : Int) := by omega
      clear hm
      go_wp2_with fail
      go_end0
      subst hkN
      exact ⟨⟨_, rfl⟩, .inl (by first | exact ⟨k, s, rfl, hj⟩ | exact ⟨s, hj⟩)⟩
end
section
open Go.RowKit Go.Shelf
attribute [local go_sem ↓] xbslK
attribute [local go_sem] bslK1
attribute [local go_sem] Oper.semAt_some
def KsIn (B g : Nat) (ks : BLs) (i' : InP) (w : World) (e : Ending) (w' : World) : Prop := ∃ v, e = .returned v ∧ KsL w' v ks ∧ InIs w' B g i' ∧ Upd g w w'
theorem wpListIn_appendK {F : Fence} {n : Nat} {w : World} {ops : Array Oper} {rest : List Oper} {o : Oper} {a : Act} {Q : Exit → Act → World → Prop} (hgd : o.guard = none) (s x : Operand)
    (ho : o.op = .call { callee := .builtin .append, args := #[s, x], argTypes := #[41, 41] })
    (base b : Nat) {v : Value} {ks : List (List UInt8)} {K : List UInt8} {N : Nat} (hs : a.eval s = v) (hown : OwnK w base v ks) (hx : a.eval x = .slice (some ⟨b, 0, none⟩) 1 1) (hr : RowIs w b (u8s K)) (hK : K.length = 32) (hN : ks.length + 1 = N)
    (hlen : N ≤ 1000000) (hbase : base ≤ w.heap.size)
    (h : ∀ A' c' w', OwnK w' base (.slice A' N c') (ks ++ [K]) → Below base w w' → KeepsOthers w w' → wpListIn F n Try.prog ops Q rest (a.put o.dst (.slice A' N c')) w') : wpListIn F n Try.prog ops Q (o :: rest) a w := by
  obtain ⟨i, z, hi, hz, hs1, hb1, hzc⟩ := keyInfo_parts
  have hr' : RowIs w b (u8v K).toArray := by rw [← u8s_toArray]; exact hr
  refine wpListIn_append_own w hgd s x 41 ho base 72 i z 32 32 Try.underlying41 hi hz hs1 hb1 hzc (by omega) v ks.length (flatK ks) hs hown ⟨b, 0, none⟩ 1 1 (u8v K) hx (by rw [u8v_length]; omega)
    (fun j u hu => by
      have := hr'.range 0 (u8v K).length j u (by rw [List.drop_zero, List.take_length]; exact hu)
      rw [Addr.add_mid]; exact this)
    (u8v_one K) (by simp only [maxLen]; omega) (by omega) hbase (fun v' w' h2 h3 _ => ?_)
  have h4 : OwnK w' base v' (ks ++ [K]) := by
    unfold OwnK
    rw [flatK_app, List.length_append]; exact h2
  obtain ⟨A', c', rfl⟩ := h4.slice
  rw [List.length_append, List.length_singleton, hN] at h4 ⊢
  refine h A' c' w' h4 (below_appendK hown h3 hbase) (KeepsOthers.of_grownBy h3 fun j o hj ho' => ?_)
  rcases hown.2 with ⟨hv, _⟩ | ⟨g, cap, cur, hv, _, hh, _⟩
  · rw [hv] at hj; cases hj
  · rw [hv] at hj
    obtain rfl : g = j := Option.some.inj hj
    rw [hh] at ho'
    obtain rfl := Option.some.inj ho'
    rfl
structure KInv (all : List UInt8) (B0 ob : Nat) (w1 : World) (k : Nat) (W : World) : Prop where
  bel : Below w1.heap.size w1 W
  sz : B0 ≤ W.heap.size
  out : ∃ v, RowIs W ob #[v] ∧ OwnK W B0 v (cutK all k)
section
variable {all : List UInt8} {B0 ob k : Nat} {w1 W W' : World}
theorem KInv.turn (h : KInv all B0 ob w1 k W) (hB : w1.heap.size ≤ B0) (ht : Turn B0 W W') : KInv all B0 ob w1 k W' := by
  obtain ⟨v, h1, h2⟩ := h.out
  refine ⟨ht.below h.bel (Nat.le_refl _) hB, Nat.le_trans h.sz ht.ck.size, v, h1.ck ht.ck, ?_⟩
  refine ⟨h2.1, ?_⟩
  rcases h2.2 with h3 | ⟨g, cap, cur, hv, hg, hh, r⟩
  · exact .inl h3
  · exact .inr ⟨g, cap, cur, hv, hg, ht.ck.same _ _ _ _ hh, r⟩
theorem KInv.step (h : KInv all B0 ob w1 k W) (hb : Below W.heap.size W W') : KInv all B0 ob w1 k W' := by
  obtain ⟨v, h3, h4⟩ := h.out
  exact ⟨h.bel.trans (hb.mono h.bel.size), Nat.le_trans h.sz hb.size, v, h3.step hb, h4.step hb⟩
end
set_option maxRecDepth 100000 in
set_option maxHeartbeats 3200000 in
/-- the keys of bytes, put together: from the range on -/
theorem inkeys_any (B g : Nat) (i : InP) (most : Int) (w : World) (h : InIs w B g i) :
    Calls Try.prog 40 #[.pointer (some ⟨g, 0, none⟩), .int .i64 most] w (KsIn B g (ikeysP i most).1 (ikeysP i most).2 w) := by
  have HN := Lib.hid (innum_any B g i 2)
  have hm := inum2_lt i
  have hnn : n64 (inumP i 2).1 = ((inumP i 2).1.toNat : Int) := n64_def _
  unfold ikeysP ilimP
  obtain ⟨m, hmm⟩ : ∃ m, m = (inumP i 2).1.toNat := ⟨_, rfl⟩
  unfold NumIn at HN
  rw [hnn] at HN
  simp only [← hmm] at hm HN ⊢
  obtain ⟨j, hj⟩ : ∃ j, j = (inumP i 2).2 := ⟨_, rfl⟩
  simp only [← hj] at HN ⊢
  clear hmm hj hnn
  obtain ⟨j2, hj2⟩ : ∃ j2, j2 = if min most 100 < (m : Int) then failP j 2 else j := ⟨_, rfl⟩
  rw [← hj2]
  have i1 : (m : Int) ≤ 9223372036854775807 := by omega
  obtain ⟨all, hall⟩ : ∃ all, all = (takeP j2 (32 * m)).1 := ⟨_, rfl⟩
  obtain ⟨j3, hj3⟩ : ∃ j3, j3 = (takeP j2 (32 * m)).2 := ⟨_, rfl⟩
  have HT := Lib.hid (intake_any B g j2 (32 * m))
  rw [← hall, ← hj3] at HT ⊢
  obtain ⟨N, hN⟩ : ∃ N, all.length = 32 * N := by
    rw [hall]; unfold takeP
    split
    · split
      · exact ⟨m, by simp; omega⟩
      · exact ⟨0, rfl⟩
    · exact ⟨0, rfl⟩
  have hNm : N ≤ m := by
    have := takeP_len j2 (32 * m)
    rw [← hall, hN] at this
    omega
  rw [show all.length / 32 = N by omega]
  have HALL := Lib.hid hN
  have HJ2 := Lib.hid hj2
  clear hall hj3 hN hj2
  refine (callsIn_wide (n := 4)).1 (callsIn_of_wp_marks Try.func40 rfl trivial ?_)
  simp only [Try.ntmps40, List.size_toArray, List.length_cons, List.length_nil, Nat.reduceAdd, Nat.reduceSub, Array.replicate_succ, Array.replicate_zero, List.push_toArray, List.append_toArray, List.nil_append, List.cons_append]
  refine wpIn_wide.2 ?_
  go_wp2_with fail
  refine (HN.out _ h).mono ?_
  rintro e w1 ⟨rfl, hi1, hu1⟩
  by_cases hlim : min most 100 < (m : Int)
  · go_wp2_with fail
    refine (infail_any B g j 2 _ hi1).mono ?_
    rintro e w2 ⟨rfl, hi2, hu2⟩
    have hj2 : failP j 2 = j2 := by rw [HJ2.out, if_pos hlim]
    rw [hj2] at hi2
    replace hu2 := hu1.trans hu2
    have hl2 := hi2.lt
    have hBg := hi2.1
    go_wp2_with fail
    refine (HT.out _ hi2).mono ?_
    rintro e w3 ⟨v3, rfl, hv3, hi3, hu3⟩
    have hl3 := hi3.lt
    obtain ⟨A3, c3, rfl, hc3, -⟩ := id hv3
    rw [HALL.out] at hc3 hv3 ⊢
    go_wp2_with fail
    refine (chunk_any A3 (32 * N) c3 _).mono ?_
    rintro e w4 ⟨rfl, hw4⟩
    obtain ⟨ob, hob⟩ : ∃ ob, ob = w3.heap.size := ⟨_, rfl⟩
    unfold chunkF
    rw [show (w3.alloc (Obj.cells #[.slice none 0 0] 41)).heap.size = ob + 1 by rw [hob]; simp, ← hob]
    have b4 : w4.heap.size = ob + 3 := by rw [hw4, hob]; simp
    have ho4 : RowIs w4 ob #[.slice none 0 0] := by
      rw [hw4]; exact ((RowIs.new' (by rw [hob])).alloc _).alloc _
    have hc4 : CRows A3 N c3 (ob + 1) (ob + 1 + 1) w4 := by
      refine ⟨?_, ?_⟩ <;> rw [hw4]
      · exact (RowIs.new' (by rw [hob]; simp)).alloc _
      · exact RowIs.new' (by rw [hob]; simp)
    have hb34 : Below w3.heap.size w3 w4 := by rw [hw4]; exact (by repeat (first | with_reducible exact Below.refl _ _ | with_reducible assumption | refine Below.drew ?_ | refine below_drewN ?_ | refine Below.alloc ?_ (by first | omega | (simp; done) | (simp; omega)) _ | refine below_setRow ?_ (by omega) _ | refine Below.setCell ?_ (by first | omega | (simp; done) | (simp; omega)) _))
    have hBo : B ≤ ob := by omega
    have hgo : g < ob := by omega
    rw [← hob] at hb34
    have HOB := Lib.hid hob
    clear hw4 hob
    go_wp2_with fail
    refine (wpIn_wide (n := 4)).1 ?_
    refine wpIn_rangeBy (F := Fence.wide) rfl (by omega) (gf := 102) rfl trivial (enters_of Try.func102 (by kernel_rfl) rfl)
      (chunk1_by A3 c3 (ob + 1) (ob + 1 + 1) w4.heap.size ob N 3 w4 hc4 hc3 (by omega) (Nat.le_refl _) ⟨by omega, by omega⟩)
      (fun A B h => (keepsOthers_below h).from _) (fun h k => h.trans k) (fun s W l o o' hl _ _ _ => BKp.putObj W o' hl) (fun k vs W h => by rw [show vs = _ from h]; rfl)
      (fun k _ W => KInv all w4.heap.size ob w3 k W)
      (fun cd k W => False)
      (fun k => Turn.ownFrom fun s W W' h ht => h.turn (by have := HOB.out; omega) ht) (fun cd => Turn.ownFrom fun s W W' h ht => h)
      (fun k s A B h hst => h.step hst) (fun cd k A B h hst => h)
      (fun h => False.elim h) ?h0 ?hround ?hdone (fun D c k W _ h => False.elim h)
    case h0 =>
      intro W hW
      have e := HOB.out
      exact ⟨(e ▸ hb34).trans (hW.mono (by omega)), hW.size, _, ho4.step hW, OwnK.nil _ _⟩
    case hround =>
      intro l k s vs W hk hi hsW harg
      obtain rfl : vs = _ := harg
      gi_wp2_with fail
      refine ⟨(KeepsOthers.refl _).from _, ⟨Nat.le_refl _, fun _ _ _ => rfl⟩, fun W2 ht2 => ?_⟩
      replace hi := hi.turn (by have := HOB.out; omega) ht2
      clear ht2 hsW
      have hbel := hi.bel
      have hpart : BsB W2 B (.slice (subA A3 (32 * k + 32) (32 * k)) 32 32) ((all.drop (32 * k)).take 32) := (hv3.keep (hbel.mono (by omega))).part (32 * k) 32 (by omega)
      have hKl : ((all.drop (32 * k)).take 32).length = 32 := by have := HALL.out; simp; omega
      have hcut : cutK all (k + 1) = cutK all k ++ [(all.drop (32 * k)).take 32] := rfl
      have hck := cutK_length all k
      have hsz := hi.sz
      obtain ⟨K, hK⟩ : ∃ K, K = (all.drop (32 * k)).take 32 := ⟨_, rfl⟩
      rw [← hK] at hpart hKl hcut
      obtain ⟨Ak, hAk⟩ : ∃ Ak, Ak = subA A3 (32 * k + 32) (32 * k) := ⟨_, rfl⟩
      rw [← hAk] at hpart ⊢
      clear hK hAk
      have htk := toKey_bs (hpart.bs (by omega))
      have e1 : keyOf K = K := by unfold keyOf; rw [if_pos hKl]
      have e2 : keyErr K = 0 := by unfold keyErr; rw [hKl]; rfl
      unfold KeyRes at htk
      rw [e1, e2] at htk
      have HTK := Lib.hid htk
      have HCUT := Lib.hid hcut
      have HCK := Lib.hid hck
      clear htk e1 e2 hcut hck
      gi_wp2_with fail
      refine ⟨trivial, calls_wideIn (.inr ⟨l, rfl⟩) (HTK.out.mono ?_)⟩
      rintro e w5 ⟨rfl, hb5⟩
      have hi5 := hi.step hb5
      obtain ⟨vo, ho5, hown5⟩ := hi5.out
      have RZ : RowIs (w5.alloc (.cells (u8s (zeros 32)) 72)) w5.heap.size (u8s (zeros 32)) := RowIs.new _ _ _
      have hz5 := zeros_length 32
      obtain ⟨Ao, co', rfl⟩ := hown5.slice
      rw [HCK.out] at ho5 hown5
      have co := ho5.cell0
      have fo := ho5.fz 0
      have lo := ho5.lt
      have hq5 : Below w5.heap.size w5 ((w5.alloc (.cells (u8s K) 72)).alloc (.cells (u8s K) 72)) := (by repeat (first | with_reducible exact Below.refl _ _ | with_reducible assumption | refine Below.drew ?_ | refine below_drewN ?_ | refine Below.alloc ?_ (by first | omega | (simp; done) | (simp; omega)) _ | refine below_setRow ?_ (by omega) _ | refine Below.setCell ?_ (by first | omega | (simp; done) | (simp; omega)) _))
      have R7 : RowIs ((w5.alloc (.cells (u8s K) 72)).alloc (.cells (u8s K) 72)) (w5.heap.size + 1) (u8s K) := RowIs.new' (by simp)
      have own7 := hown5.step hq5
      have ho7 := ho5.step hq5
      have hz7 := hq5.size
      have hs5 := hi5.sz
      gi_wp2_with (gi_at_builtin; refine wpListIn_appendK rfl (.tmp 32) (.tmp 34) rfl w4.heap.size (w5.heap.size + 1) rfl own7 rfl R7 hKl (by rw [HCK.out]) (by omega) (by omega) ?_; intro A8 c8 w8 own8 bel8 ko8; have ho8 := ho7.below bel8 (by omega); have fo8 := ho8.fz 0; have co8 := ho8.cell0)
      have lb5 := hb5.size
      have lb8 := bel8.size
      have ls4 : ob < w4.heap.size := by omega
      have hh9 : ∀ r, r ≠ ob → (w8.setCell ⟨ob, 0, none⟩ (.slice A8 (k + 1) c8)).heap[r]? = w8.heap[r]? := fun r hr => Below.heap_setCell _ _ _ _ hr
      have hz9 : (w8.setCell ⟨ob, 0, none⟩ (.slice A8 (k + 1) c8)).heap.size = w8.heap.size := by simp [World.setCell]
      refine ⟨((keepsOthers_below hb5).trans ((keepsOthers_below hq5).trans (ko8.trans (KeepsOthers.setCell _ _ _)))).from _, ⟨by omega, fun r hr hne => ?_⟩, ⟨?_, by omega, _, by simpa using ho8.put 0 (.slice A8 (k + 1) c8), ?_⟩⟩
      · rw [hh9 r hne, bel8.block r hr, hq5.block r (by omega), hb5.block r (by omega)]
      · have e := HOB.out
        exact ((hi5.bel.trans (hq5.mono (by omega))).trans (bel8.mono (by omega))).setCell (by simp; omega) _
      · rw [HCUT.out]
        exact own8.keep fun r hr _ => hh9 r (by omega)
    case hdone =>
      intro D k s W hD hk hi hDd
      subst hk
      obtain ⟨v, ho, hown⟩ := hi.out
      have hc0 := ho.cell0
      have hcl := cutK_length all k
      have hka : ∀ x ∈ cutK all k, x.length = 32 := cutK_all all k (by rw [HALL.out]; omega)
      go_wp2_with fail
      refine ⟨by simp, .inl ⟨_, _, rfl, run_takeDeferred hDd, ?_⟩⟩
      have htu : Turn w4.heap.size W (W.putObj D (.deferred none)) := ⟨some D, grownBy_putObj' _ _ _, fun r e => by cases e; exact ⟨hD, _, hDd, rfl⟩⟩
      have hi2 := hi.turn (by have := HOB.out; omega) htu
      obtain ⟨v9, ho9, hown9⟩ := hi2.out
      have hv9 : v9 = v := by
        have e1 := ho9.cell0
        have e2 := (ho.ck htu.ck).cell0
        rw [e1] at e2
        exact Option.some.inj e2
      subst hv9
      exact ⟨_, results_tmp rfl _ _ _, v9, rfl, hown9.ks hka, hi3.upd (Upd.of hi2.bel) (by have := HOB.out; omega) (by omega), (hu2.trans hu3).then hi2.bel⟩
  · have hj2 : j2 = j := by rw [HJ2.out, if_neg hlim]
    have hi2 := hi1
    have hu2 := hu1
    rw [← hj2] at hi2
    have hl2 := hi2.lt
    have hBg := hi2.1
    go_wp2_with fail
    refine (HT.out _ hi2).mono ?_
    rintro e w3 ⟨v3, rfl, hv3, hi3, hu3⟩
    have hl3 := hi3.lt
    obtain ⟨A3, c3, rfl, hc3, -⟩ := id hv3
    rw [HALL.out] at hc3 hv3 ⊢
    go_wp2_with fail
    refine (chunk_any A3 (32 * N) c3 _).mono ?_
    rintro e w4 ⟨rfl, hw4⟩
    obtain ⟨ob, hob⟩ : ∃ ob, ob = w3.heap.size := ⟨_, rfl⟩
    unfold chunkF
    rw [show (w3.alloc (Obj.cells #[.slice none 0 0] 41)).heap.size = ob + 1 by rw [hob]; simp, ← hob]
    have b4 : w4.heap.size = ob + 3 := by rw [hw4, hob]; simp
    have ho4 : RowIs w4 ob #[.slice none 0 0] := by
      rw [hw4]; exact ((RowIs.new' (by rw [hob])).alloc _).alloc _
    have hc4 : CRows A3 N c3 (ob + 1) (ob + 1 + 1) w4 := by
      refine ⟨?_, ?_⟩ <;> rw [hw4]
      · exact (RowIs.new' (by rw [hob]; simp)).alloc _
      · exact RowIs.new' (by rw [hob]; simp)
    have hb34 : Below w3.heap.size w3 w4 := by rw [hw4]; exact (by repeat (first | with_reducible exact Below.refl _ _ | with_reducible assumption | refine Below.drew ?_ | refine below_drewN ?_ | refine Below.alloc ?_ (by first | omega | (simp; done) | (simp; omega)) _ | refine below_setRow ?_ (by omega) _ | refine Below.setCell ?_ (by first | omega | (simp; done) | (simp; omega)) _))
    have hBo : B ≤ ob := by omega
    have hgo : g < ob := by omega
    rw [← hob] at hb34
    have HOB := Lib.hid hob
    clear hw4 hob
    go_wp2_with fail
    refine (wpIn_wide (n := 4)).1 ?_
    refine wpIn_rangeBy (F := Fence.wide) rfl (by omega) (gf := 102) rfl trivial (enters_of Try.func102 (by kernel_rfl) rfl)
      (chunk1_by A3 c3 (ob + 1) (ob + 1 + 1) w4.heap.size ob N 3 w4 hc4 hc3 (by omega) (Nat.le_refl _) ⟨by omega, by omega⟩)
      (fun A B h => (keepsOthers_below h).from _) (fun h k => h.trans k) (fun s W l o o' hl _ _ _ => BKp.putObj W o' hl) (fun k vs W h => by rw [show vs = _ from h]; rfl)
      (fun k _ W => KInv all w4.heap.size ob w3 k W)
      (fun cd k W => False)
      (fun k => Turn.ownFrom fun s W W' h ht => h.turn (by have := HOB.out; omega) ht) (fun cd => Turn.ownFrom fun s W W' h ht => h)
      (fun k s A B h hst => h.step hst) (fun cd k A B h hst => h)
      (fun h => False.elim h) ?h0 ?hround ?hdone (fun D c k W _ h => False.elim h)
    case h0 =>
      intro W hW
      have e := HOB.out
      exact ⟨(e ▸ hb34).trans (hW.mono (by omega)), hW.size, _, ho4.step hW, OwnK.nil _ _⟩
    case hround =>
      intro l k s vs W hk hi hsW harg
      obtain rfl : vs = _ := harg
      gi_wp2_with fail
      refine ⟨(KeepsOthers.refl _).from _, ⟨Nat.le_refl _, fun _ _ _ => rfl⟩, fun W2 ht2 => ?_⟩
      replace hi := hi.turn (by have := HOB.out; omega) ht2
      clear ht2 hsW
      have hbel := hi.bel
      have hpart : BsB W2 B (.slice (subA A3 (32 * k + 32) (32 * k)) 32 32) ((all.drop (32 * k)).take 32) := (hv3.keep (hbel.mono (by omega))).part (32 * k) 32 (by omega)
      have hKl : ((all.drop (32 * k)).take 32).length = 32 := by have := HALL.out; simp; omega
      have hcut : cutK all (k + 1) = cutK all k ++ [(all.drop (32 * k)).take 32] := rfl
      have hck := cutK_length all k
      have hsz := hi.sz
      obtain ⟨K, hK⟩ : ∃ K, K = (all.drop (32 * k)).take 32 := ⟨_, rfl⟩
      rw [← hK] at hpart hKl hcut
      obtain ⟨Ak, hAk⟩ : ∃ Ak, Ak = subA A3 (32 * k + 32) (32 * k) := ⟨_, rfl⟩
      rw [← hAk] at hpart ⊢
      clear hK hAk
      have htk := toKey_bs (hpart.bs (by omega))
      have e1 : keyOf K = K := by unfold keyOf; rw [if_pos hKl]
      have e2 : keyErr K = 0 := by unfold keyErr; rw [hKl]; rfl
      unfold KeyRes at htk
      rw [e1, e2] at htk
      have HTK := Lib.hid htk
      have HCUT := Lib.hid hcut
      have HCK := Lib.hid hck
      clear htk e1 e2 hcut hck
      gi_wp2_with fail
      refine ⟨trivial, calls_wideIn (.inr ⟨l, rfl⟩) (HTK.out.mono ?_)⟩
      rintro e w5 ⟨rfl, hb5⟩
      have hi5 := hi.step hb5
      obtain ⟨vo, ho5, hown5⟩ := hi5.out
      have RZ : RowIs (w5.alloc (.cells (u8s (zeros 32)) 72)) w5.heap.size (u8s (zeros 32)) := RowIs.new _ _ _
      have hz5 := zeros_length 32
      obtain ⟨Ao, co', rfl⟩ := hown5.slice
      rw [HCK.out] at ho5 hown5
      have co := ho5.cell0
      have fo := ho5.fz 0
      have lo := ho5.lt
      have hq5 : Below w5.heap.size w5 ((w5.alloc (.cells (u8s K) 72)).alloc (.cells (u8s K) 72)) := (by repeat (first | with_reducible exact Below.refl _ _ | with_reducible assumption | refine Below.drew ?_ | refine below_drewN ?_ | refine Below.alloc ?_ (by first | omega | (simp; done) | (simp; omega)) _ | refine below_setRow ?_ (by omega) _ | refine Below.setCell ?_ (by first | omega | (simp; done) | (simp; omega)) _))
      have R7 : RowIs ((w5.alloc (.cells (u8s K) 72)).alloc (.cells (u8s K) 72)) (w5.heap.size + 1) (u8s K) := RowIs.new' (by simp)
      have own7 := hown5.step hq5
      have ho7 := ho5.step hq5
      have hz7 := hq5.size
      have hs5 := hi5.sz
      gi_wp2_with (gi_at_builtin; refine wpListIn_appendK rfl (.tmp 32) (.tmp 34) rfl w4.heap.size (w5.heap.size + 1) rfl own7 rfl R7 hKl (by rw [HCK.out]) (by omega) (by omega) ?_; intro A8 c8 w8 own8 bel8 ko8; have ho8 := ho7.below bel8 (by omega); have fo8 := ho8.fz 0; have co8 := ho8.cell0)
      have lb5 := hb5.size
      have lb8 := bel8.size
      have ls4 : ob < w4.heap.size := by omega
      have hh9 : ∀ r, r ≠ ob → (w8.setCell ⟨ob, 0, none⟩ (.slice A8 (k + 1) c8)).heap[r]? = w8.heap[r]? := fun r hr => Below.heap_setCell _ _ _ _ hr
      have hz9 : (w8.setCell ⟨ob, 0, none⟩ (.slice A8 (k + 1) c8)).heap.size = w8.heap.size := by simp [World.setCell]
      refine ⟨((keepsOthers_below hb5).trans ((keepsOthers_below hq5).trans (ko8.trans (KeepsOthers.setCell _ _ _)))).from _, ⟨by omega, fun r hr hne => ?_⟩, ⟨?_, by omega, _, by simpa using ho8.put 0 (.slice A8 (k + 1) c8), ?_⟩⟩
      · rw [hh9 r hne, bel8.block r hr, hq5.block r (by omega), hb5.block r (by omega)]
      · have e := HOB.out
        exact ((hi5.bel.trans (hq5.mono (by omega))).trans (bel8.mono (by omega))).setCell (by simp; omega) _
      · rw [HCUT.out]
        exact own8.keep fun r hr _ => hh9 r (by omega)
    case hdone =>
      intro D k s W hD hk hi hDd
      subst hk
      obtain ⟨v, ho, hown⟩ := hi.out
      have hc0 := ho.cell0
      have hcl := cutK_length all k
      have hka : ∀ x ∈ cutK all k, x.length = 32 := cutK_all all k (by rw [HALL.out]; omega)
      go_wp2_with fail
      refine ⟨by simp, .inl ⟨_, _, rfl, run_takeDeferred hDd, ?_⟩⟩
      have htu : Turn w4.heap.size W (W.putObj D (.deferred none)) := ⟨some D, grownBy_putObj' _ _ _, fun r e => by cases e; exact ⟨hD, _, hDd, rfl⟩⟩
      have hi2 := hi.turn (by have := HOB.out; omega) htu
      obtain ⟨v9, ho9, hown9⟩ := hi2.out
      have hv9 : v9 = v := by
        have e1 := ho9.cell0
        have e2 := (ho.ck htu.ck).cell0
        rw [e1] at e2
        exact Option.some.inj e2
      subst hv9
      exact ⟨_, results_tmp rfl _ _ _, v9, rfl, hown9.ks hka, hi3.upd (Upd.of hi2.bel) (by have := HOB.out; omega) (by omega), (hu2.trans hu3).then hi2.bel⟩
end
end Go.Proofs.Ytifnpphkplogaaa
