/- Layer 9: an Out: the program's. | Layer 9: keys written; what the document's Out does. | Layer 9: the document's Out. -/
import Derived.Test.YtifnpphkplogaaaCodL
import Derived.Test.YtifnpphkplogaaaOwnL
import Derived.Test.YtifnpphkplogaaaUpd
import Derived.Test.YtifnpphkplogaaaOctBs
import Derived.Test.YtifnpphkplogaaaKs
import Derived.Test.YtifnpphkplogaaaKeyC
namespace Go.Proofs.Ytifnpphkplogaaa
section
open Go.RowKit
theorem number_any (k : Int) (w : World) : Calls Try.prog 65 #[.int .i64 k] w fun e w' => e = .returned (.bool (sizeOk k)) ∧ w = w' := by
  by_cases h1 : k = 1
  · subst h1
    go_enter Try.func65, Try.ntmps65
    go_wp2_with fail
    go_ret
    exact ⟨rfl, rfl⟩
  have f1 : (k == (1 : Int)) = false := by simpa using h1
  by_cases h2 : k = 2
  · subst h2
    go_enter Try.func65, Try.ntmps65
    go_wp2_with fail
    go_ret
    exact ⟨rfl, rfl⟩
  have f2 : (k == (2 : Int)) = false := by simpa using h2
  by_cases h4 : k = 4
  · subst h4
    go_enter Try.func65, Try.ntmps65
    go_wp2_with fail
    go_ret
    exact ⟨rfl, rfl⟩
  have f4 : (k == (4 : Int)) = false := by simpa using h4
  have e : sizeOk k = (k == (8 : Int)) := by unfold sizeOk; by_cases h : k = 8 <;> simp [h, h1, h2, h4]
  rw [e]
  clear h1 h2 h4 e
  go_enter Try.func65, Try.ntmps65
  go_wp2_with fail
  go_ret
  exact ⟨rfl, rfl⟩
theorem refsize_any (k : Int) (w : World) : Calls Try.prog 68 #[.int .i64 k] w fun e w' => e = .returned (.bool (sizeOk k)) ∧ w = w' := by
  by_cases h1 : k = 1
  · subst h1
    go_enter Try.func68, Try.ntmps68
    go_wp2_with fail
    go_ret
    exact ⟨rfl, rfl⟩
  have f1 : (k == (1 : Int)) = false := by simpa using h1
  by_cases h2 : k = 2
  · subst h2
    go_enter Try.func68, Try.ntmps68
    go_wp2_with fail
    go_ret
    exact ⟨rfl, rfl⟩
  have f2 : (k == (2 : Int)) = false := by simpa using h2
  by_cases h4 : k = 4
  · subst h4
    go_enter Try.func68, Try.ntmps68
    go_wp2_with fail
    go_ret
    exact ⟨rfl, rfl⟩
  have f4 : (k == (4 : Int)) = false := by simpa using h4
  have e : sizeOk k = (k == (8 : Int)) := by unfold sizeOk; by_cases h : k = 8 <;> simp [h, h1, h2, h4]
  rw [e]
  clear h1 h2 h4 e
  go_enter Try.func68, Try.ntmps68
  go_wp2_with fail
  go_ret
  exact ⟨rfl, rfl⟩
/-- an Out -/
def OutIs (w : World) (g : Nat) (o : OutP) : Prop := ∃ v, RowIs w g #[v, .int .i64 o.e] ∧ Bs w v o.b
theorem OutIs.lt {w : World} {g : Nat} {o : OutP} (h : OutIs w g o) : g < w.heap.size := by obtain ⟨v, h1, _⟩ := h; exact h1.lt
theorem OutIs.step {w w' : World} {g : Nat} {o : OutP} (h : OutIs w g o) (hb : Below w.heap.size w w') : OutIs w' g o := by
  obtain ⟨v, h1, h2⟩ := h; exact ⟨v, h1.step hb, h2.step hb⟩
theorem row2_no8 {w : World} {g : Nat} {v : Value} {l : List UInt8} {e : Int} (h : RowIs w g #[v, .int .i64 e]) (hv : Bs w v l) : No8 w g := by
  obtain ⟨A, c, rfl, _⟩ := hv
  exact no8_row h (by simp)
theorem OutIs.no8 {w : World} {g : Nat} {o : OutP} (h : OutIs w g o) : No8 w g := by obtain ⟨v, h1, h2⟩ := h; exact row2_no8 h1 h2
theorem OutIs.upd {w w' : World} {g x : Nat} {o : OutP} (h : OutIs w g o) (hu : Upd x w w') (hn : No8 w x) (hg : g ≠ x) : OutIs w' g o := by
  obtain ⟨v, h1, h2⟩ := h; exact ⟨v, h1.upd hu hg, h2.upd hu hn⟩
theorem row2_cells {w : World} {g : Nat} {v u : Value} (h : RowIs w g #[v, u]) : w.cell? ⟨g, 0, none⟩ = some v ∧ w.cell? ⟨g, 1, none⟩ = some u := by
  obtain ⟨t, ht⟩ := h.row.heap
  rw [h.has] at ht
  exact ⟨by rw [cell_of_row w g 0 _ t (0, 0) ht]; rfl, by rw [cell_of_row w g 1 _ t (0, 0) ht]; rfl⟩
def OutTo (g : Nat) (o' : OutP) (w : World) (e : Ending) (w' : World) : Prop := e = .returned (.tuple #[]) ∧ OutIs w' g o' ∧ Upd g w w'
theorem row2_put1 {w : World} {g : Nat} {v u x : Value} (h : RowIs w g #[v, u]) : RowIs (w.setCell ⟨g, 1, none⟩ x) g #[v, x] := by simpa using h.put 1 x
theorem row2_put0 {w : World} {g : Nat} {v u x : Value} (h : RowIs w g #[v, u]) : RowIs (w.setCell ⟨g, 0, none⟩ x) g #[x, u] := by simpa using h.put 0 x
theorem upd_grown {g : Nat} {w w1 w2 : World} {row : Option Nat} (h : Upd g w w1) (hg : w1.grownBy w2 row) (hr : ∀ k, row = some k → w.heap.size ≤ k) : Upd g w w2 :=
  ⟨hg.os.trans h.os, hg.tape.trans h.tape, hg.output.trans h.output, Nat.le_trans h.size hg.size, fun k hk hne => (hg.block k (Nat.lt_of_lt_of_le hk h.size) (fun e => by have := hr k e.symm; omega)).trans (h.block k hk hne)⟩
set_option maxRecDepth 100000 in
set_option maxHeartbeats 1600000 in
theorem put_any (g : Nat) (o : OutP) (wr : Bool) (er : Int) (hne : er ≠ 0) (vl : Value) (ls : BL) (x : List UInt8) (hx : ls.flatten = x) (w : World) (h : OutIs w g o) (hl : BsL w vl ls) (hll : ls.length ≤ 1000) (hsz : o.b.length + x.length ≤ 1000000) :
    Calls Try.prog 66 #[.pointer (some ⟨g, 0, none⟩), .bool wr, .int .i64 er, vl] w (OutTo g (putP o wr er x) w) := by
  obtain ⟨v, hr, hv⟩ := h
  obtain ⟨c0, c1⟩ := row2_cells hr
  have f0 := hr.fz 0
  have f1 := hr.fz 1
  have hgl := hr.lt
  by_cases h0 : o.e = 0
  · have e0 : ((o.e : Int) == 0) = true := by simpa using h0
    cases wr with
    | true =>
      have ep : putP o true er x = ⟨o.b, er⟩ := by unfold putP; rw [if_pos h0]; rfl
      rw [ep]
      have e1 : ((er : Int) == 0) = false := by simpa using hne
      clear hl
      go_enter Try.func66, Try.ntmps66
      go_wp2_with fail
      go_end0
      exact ⟨rfl, ⟨v, row2_put1 hr, hv.upd ((Upd.refl g w).put 1 _) (row2_no8 hr hv)⟩, (Upd.refl g w).put 1 _⟩
    | false =>
      have ep : putP o false er x = ⟨o.b ++ x, 0⟩ := by unfold putP; rw [if_pos h0]; rfl
      rw [ep]
      obtain ⟨A0, n0, rfl, -, -, -⟩ := id hv
      have hq : Below w.heap.size w (w.alloc (.cells #[.slice A0 o.b.length n0] 25)) := (by repeat (first | with_reducible exact Below.refl _ _ | with_reducible assumption | refine Below.drew ?_ | refine below_drewN ?_ | refine Below.alloc ?_ (by first | omega | (simp; done) | (simp; omega)) _ | refine below_setRow ?_ (by omega) _ | refine Below.setCell ?_ (by first | omega | (simp; done) | (simp; omega)) _))
      have own : OwnL (w.alloc (.cells #[.slice A0 o.b.length n0] 25)) w.heap.size (.slice (some ⟨w.heap.size, 0, none⟩) 1 1) [o.b] :=
        ⟨[.slice A0 o.b.length n0], OwnG.new 25 1 isSl w w.heap.size [.slice A0 o.b.length n0] 1 (by simp) (by simp [isSl]) (Nat.le_refl _) (by simp [maxLen]) rfl, hv.step hq, trivial⟩
      have hl2 := hl.step hq
      have hr2 := hr.step hq
      have hv2 := hv.step hq
      have hne2 := own.ne_row hr2 (by simp [isSl])
      have hsz2 := hq.size
      have hnl : (1 : Nat) + ls.length = ls.length + 1 := by omega
      go_enter Try.func66, Try.ntmps66
      go_wp2_with (at_builtin; refine wpList_appendL rfl (.tmp 30) (.tmp 31) rfl (N := ls.length + 1) rfl own rfl hl2 (by simp; omega) (by omega) hsz2 ?_; intro A5 c5 w5 own5 gr5 ob5)
      have hfl : ([o.b] ++ ls).flatten = o.b ++ x := by simp [hx]
      have hbl := own5.bsl (by simp; omega)
      have hr5 := hr2.grown gr5 hne2
      have hu5 : Upd g w w5 := upd_grown (Upd.of hq) gr5 (fun k hk => by have e : w.heap.size = k := Option.some.inj hk; omega)
      have hcc := concat_bs _ _ (by rw [hfl, List.length_append]; omega) w5 (by simpa using hbl)
      rw [hfl] at hcc
      refine hcc.mono ?_
      rintro e w6 ⟨v6, rfl, hv6, hb6⟩
      obtain ⟨A6, c6, rfl, -⟩ := id hv6
      rw [List.length_append] at hv6 ⊢
      have hr6 := hr5.step hb6
      have hu6 := hu5.then hb6
      have f06 := hr6.fz 0
      have c06 := (row2_cells hr6).1
      go_wp2_with fail
      go_end0
      exact ⟨rfl, ⟨_, by rw [h0] at hr6; exact row2_put0 hr6, hv6.upd ((Upd.refl g w6).put 0 _) (no8_row hr6 (by simp))⟩, hu6.put 0 _⟩
  · have ep : putP o wr er x = o := by unfold putP; rw [if_neg h0]
    have e0 : ((o.e : Int) == 0) = false := by simpa using h0
    rw [ep]
    clear hl
    cases wr
    · go_enter Try.func66, Try.ntmps66
      go_wp2_with fail
      go_end0
      exact ⟨rfl, ⟨v, hr, hv⟩, Upd.refl g w⟩
    · go_enter Try.func66, Try.ntmps66
      go_wp2_with fail
      go_end0
      exact ⟨rfl, ⟨v, hr, hv⟩, Upd.refl g w⟩
theorem high_bs (n : UInt64) (k : Int) (w : World) : Calls Try.prog 67 #[.int .u64 (n64 n), .int .i64 k] w (BsRes w (highX n k)) :=
  (high_num n k w).mono fun _ _ h => by rw [highX_def]; exact h.bs (by rw [← highX_def]; have := highX_length n k; omega)
theorem refHigh_bs (n : UInt64) (k : Int) (w : World) : Calls Try.prog 70 #[.int .u64 (n64 n), .int .i64 k] w (BsRes w (highX n k)) :=
  (refHigh_num n k w).mono fun _ _ h => by rw [highX_def]; exact h.bs (by rw [← highX_def]; have := highX_length n k; omega)
set_option maxRecDepth 100000 in
set_option maxHeartbeats 1600000 in
theorem outnum_any (g : Nat) (o : OutP) (n : UInt64) (k : Int) (w : World) (h : OutIs w g o) (hsz : o.b.length ≤ 900000) :
    Calls Try.prog 24 #[.pointer (some ⟨g, 0, none⟩), .int .u64 (n64 n), .int .i64 k] w (OutTo g (onumP o n k) w) := by
  have hput := fun (wr : Bool) (vl : Value) (W : World) q1 q2 => put_any g o wr 51 (by omega) vl [highX n k] (highX n k) (by simp) W q1 q2 (by simp) (by have := highX_length n k; omega)
  have HP := Lib.hid hput
  have HH := Lib.hid (high_bs n k)
  clear hput
  by_cases hk : sizeOk k = true
  · by_cases h8 : k = 8
    · have hwr : onumP o n k = putP o false 51 (highX n k) := by unfold onumP; rw [hk, h8, fitsN_8]; rfl
      rw [hwr]
      obtain ⟨X, hX⟩ : ∃ X, X = highX n k := ⟨_, rfl⟩
      rw [← hX] at HP HH ⊢
      clear hX hwr
      subst h8
      go_enter Try.func24, Try.ntmps24
      go_wp2_with fail
      refine (number_any 8 _).mono ?_
      rintro e w1 ⟨rfl, rfl⟩
      rw [hk]
      go_wp2_with fail
      refine (HH.out _).mono ?_
      rintro e w2 ⟨v2, rfl, hv2, hb2⟩
      obtain ⟨A2, c2, rfl, -⟩ := id hv2
      go_wp2_with fail
      have hq : Below w2.heap.size w2 (w2.alloc (.cells #[.slice A2 X.length c2] 25)) := (by repeat (first | with_reducible exact Below.refl _ _ | with_reducible assumption | refine Below.drew ?_ | refine below_drewN ?_ | refine Below.alloc ?_ (by first | omega | (simp; done) | (simp; omega)) _ | refine below_setRow ?_ (by omega) _ | refine Below.setCell ?_ (by first | omega | (simp; done) | (simp; omega)) _))
      refine (HP.out false _ _ ((h.step hb2).step hq) (BsL.lit1 (gg := w2.heap.size) 25 rfl hv2)).mono ?_
      rintro e w3 ⟨rfl, ho, hu⟩
      go_wp2_with fail
      go_end0
      exact ⟨rfl, ho, ((Upd.of hb2).then hq).trans hu⟩
    · have h124 : k = 1 ∨ k = 2 ∨ k = 4 := by unfold sizeOk at hk; rw [decide_eq_true_eq] at hk; omega
      rcases h124 with rfl | rfl | rfl
      · have hwr : onumP o n 1 = putP o (decide (0 < n64 n / 256)) 51 (highX n 1) := by
          unfold onumP
          rw [hk]
          congr 1
          unfold fitsN
          rw [n64_def, Bool.true_and]
          by_cases hn : n.toNat < 256
          · rw [decide_eq_true (by exact hn), decide_eq_false (by omega)]; rfl
          · rw [decide_eq_false (by exact hn), decide_eq_true (by omega)]; rfl
        rw [hwr]
        obtain ⟨X, hX⟩ : ∃ X, X = highX n 1 := ⟨_, rfl⟩
        rw [← hX] at HP HH ⊢
        clear hX hwr
        go_enter Try.func24, Try.ntmps24
        go_wp2_with fail
        refine (number_any 1 _).mono ?_
        rintro e w1 ⟨rfl, rfl⟩
        rw [hk]
        go_wp2_with fail
        refine (HH.out _).mono ?_
        rintro e w2 ⟨v2, rfl, hv2, hb2⟩
        obtain ⟨A2, c2, rfl, -⟩ := id hv2
        go_wp2_with fail
        have hq : Below w2.heap.size w2 (w2.alloc (.cells #[.slice A2 X.length c2] 25)) := (by repeat (first | with_reducible exact Below.refl _ _ | with_reducible assumption | refine Below.drew ?_ | refine below_drewN ?_ | refine Below.alloc ?_ (by first | omega | (simp; done) | (simp; omega)) _ | refine below_setRow ?_ (by omega) _ | refine Below.setCell ?_ (by first | omega | (simp; done) | (simp; omega)) _))
        refine (HP.out _ _ _ ((h.step hb2).step hq) (BsL.lit1 (gg := w2.heap.size) 25 rfl hv2)).mono ?_
        rintro e w3 ⟨rfl, ho, hu⟩
        go_wp2_with fail
        go_end0
        exact ⟨rfl, ho, ((Upd.of hb2).then hq).trans hu⟩
      · have hwr : onumP o n 2 = putP o (decide (0 < n64 n / 65536)) 51 (highX n 2) := by
          unfold onumP
          rw [hk]
          congr 1
          unfold fitsN
          rw [n64_def, Bool.true_and]
          by_cases hn : n.toNat < 65536
          · rw [decide_eq_true (by exact hn), decide_eq_false (by omega)]; rfl
          · rw [decide_eq_false (by exact hn), decide_eq_true (by omega)]; rfl
        rw [hwr]
        obtain ⟨X, hX⟩ : ∃ X, X = highX n 2 := ⟨_, rfl⟩
        rw [← hX] at HP HH ⊢
        clear hX hwr
        go_enter Try.func24, Try.ntmps24
        go_wp2_with fail
        refine (number_any 2 _).mono ?_
        rintro e w1 ⟨rfl, rfl⟩
        rw [hk]
        go_wp2_with fail
        refine (HH.out _).mono ?_
        rintro e w2 ⟨v2, rfl, hv2, hb2⟩
        obtain ⟨A2, c2, rfl, -⟩ := id hv2
        go_wp2_with fail
        have hq : Below w2.heap.size w2 (w2.alloc (.cells #[.slice A2 X.length c2] 25)) := (by repeat (first | with_reducible exact Below.refl _ _ | with_reducible assumption | refine Below.drew ?_ | refine below_drewN ?_ | refine Below.alloc ?_ (by first | omega | (simp; done) | (simp; omega)) _ | refine below_setRow ?_ (by omega) _ | refine Below.setCell ?_ (by first | omega | (simp; done) | (simp; omega)) _))
        refine (HP.out _ _ _ ((h.step hb2).step hq) (BsL.lit1 (gg := w2.heap.size) 25 rfl hv2)).mono ?_
        rintro e w3 ⟨rfl, ho, hu⟩
        go_wp2_with fail
        go_end0
        exact ⟨rfl, ho, ((Upd.of hb2).then hq).trans hu⟩
      · have hwr : onumP o n 4 = putP o (decide (0 < n64 n / 4294967296)) 51 (highX n 4) := by
          unfold onumP
          rw [hk]
          congr 1
          unfold fitsN
          rw [n64_def, Bool.true_and]
          by_cases hn : n.toNat < 4294967296
          · rw [decide_eq_true (by exact hn), decide_eq_false (by omega)]; rfl
          · rw [decide_eq_false (by exact hn), decide_eq_true (by omega)]; rfl
        rw [hwr]
        obtain ⟨X, hX⟩ : ∃ X, X = highX n 4 := ⟨_, rfl⟩
        rw [← hX] at HP HH ⊢
        clear hX hwr
        go_enter Try.func24, Try.ntmps24
        go_wp2_with fail
        refine (number_any 4 _).mono ?_
        rintro e w1 ⟨rfl, rfl⟩
        rw [hk]
        go_wp2_with fail
        refine (HH.out _).mono ?_
        rintro e w2 ⟨v2, rfl, hv2, hb2⟩
        obtain ⟨A2, c2, rfl, -⟩ := id hv2
        go_wp2_with fail
        have hq : Below w2.heap.size w2 (w2.alloc (.cells #[.slice A2 X.length c2] 25)) := (by repeat (first | with_reducible exact Below.refl _ _ | with_reducible assumption | refine Below.drew ?_ | refine below_drewN ?_ | refine Below.alloc ?_ (by first | omega | (simp; done) | (simp; omega)) _ | refine below_setRow ?_ (by omega) _ | refine Below.setCell ?_ (by first | omega | (simp; done) | (simp; omega)) _))
        refine (HP.out _ _ _ ((h.step hb2).step hq) (BsL.lit1 (gg := w2.heap.size) 25 rfl hv2)).mono ?_
        rintro e w3 ⟨rfl, ho, hu⟩
        go_wp2_with fail
        go_end0
        exact ⟨rfl, ho, ((Upd.of hb2).then hq).trans hu⟩
  · have hkf : sizeOk k = false := by simpa using hk
    have hwr : onumP o n k = putP o true 51 (highX n k) := by unfold onumP; rw [hkf]; rfl
    rw [hwr]
    obtain ⟨X, hX⟩ : ∃ X, X = highX n k := ⟨_, rfl⟩
    rw [← hX] at HP HH ⊢
    clear hX hwr
    go_enter Try.func24, Try.ntmps24
    go_wp2_with fail
    refine (number_any k _).mono ?_
    rintro e w1 ⟨rfl, rfl⟩
    rw [hkf]
    go_wp2_with fail
    refine (HH.out _).mono ?_
    rintro e w2 ⟨v2, rfl, hv2, hb2⟩
    obtain ⟨A2, c2, rfl, -⟩ := id hv2
    go_wp2_with fail
    have hq : Below w2.heap.size w2 (w2.alloc (.cells #[.slice A2 X.length c2] 25)) := (by repeat (first | with_reducible exact Below.refl _ _ | with_reducible assumption | refine Below.drew ?_ | refine below_drewN ?_ | refine Below.alloc ?_ (by first | omega | (simp; done) | (simp; omega)) _ | refine below_setRow ?_ (by omega) _ | refine Below.setCell ?_ (by first | omega | (simp; done) | (simp; omega)) _))
    refine (HP.out _ _ _ ((h.step hb2).step hq) (BsL.lit1 (gg := w2.heap.size) 25 rfl hv2)).mono ?_
    rintro e w3 ⟨rfl, ho, hu⟩
    go_wp2_with fail
    go_end0
    exact ⟨rfl, ho, ((Upd.of hb2).then hq).trans hu⟩
set_option maxRecDepth 100000 in
set_option maxHeartbeats 1600000 in
theorem outbytes_any (g : Nat) (o : OutP) (v : Value) (b : List UInt8) (w : World) (h : OutIs w g o) (hv : Bs w v b) (hsz : o.b.length + b.length ≤ 900000) :
    Calls Try.prog 26 #[.pointer (some ⟨g, 0, none⟩), v] w (OutTo g (obytesP o b) w) := by
  have hput := fun (vl : Value) (W : World) q1 q2 => put_any g o (decide (4000 < b.length)) 2 (by omega) vl [highX (UInt64.ofNat b.length) 2, b] (highX (UInt64.ofNat b.length) 2 ++ b) (by simp) W q1 q2 (by simp) (by have := highX_length (UInt64.ofNat b.length) 2; rw [List.length_append]; omega)
  have HP := Lib.hid hput
  have hh := high_bs (UInt64.ofNat b.length) 2
  rw [show n64 (UInt64.ofNat b.length) = (b.length : Int) by rw [n64_def, UInt64.toNat_ofNat']; omega] at hh
  have HH := Lib.hid hh
  unfold obytesP
  clear hput hh
  obtain ⟨X, hX⟩ : ∃ X, X = highX (UInt64.ofNat b.length) 2 := ⟨_, rfl⟩
  rw [← hX] at HP HH ⊢
  clear hX
  obtain ⟨A, c, rfl, -⟩ := id hv
  obtain ⟨N, hN⟩ : ∃ N, N = b.length := ⟨_, rfl⟩
  rw [← hN] at HP HH hv hsz ⊢
  have HN := Lib.hid hN
  clear hN
  have i1 : (N : Int) ≤ 18446744073709551615 := by omega
  have hd : decide ((4000 : Int) < (N : Int)) = decide (4000 < N) := by by_cases h4 : 4000 < N <;> simp [h4] <;> omega
  rw [← hd] at HP ⊢
  clear hd
  go_enter Try.func26, Try.ntmps26
  go_wp2_with fail
  refine (HH.out _).mono ?_
  rintro e w2 ⟨v2, rfl, hv2, hb2⟩
  obtain ⟨A2, c2, rfl, -⟩ := id hv2
  go_wp2_with fail
  have hq : Below w2.heap.size w2 (w2.alloc (.cells #[.slice A2 X.length c2, .slice A N c] 25)) := (by repeat (first | with_reducible exact Below.refl _ _ | with_reducible assumption | refine Below.drew ?_ | refine below_drewN ?_ | refine Below.alloc ?_ (by first | omega | (simp; done) | (simp; omega)) _ | refine below_setRow ?_ (by omega) _ | refine Below.setCell ?_ (by first | omega | (simp; done) | (simp; omega)) _))
  refine (HP.out _ _ ((h.step hb2).step hq) (BsL.lit2 (gg := w2.heap.size) 25 rfl hv2 (hv.step hb2))).mono ?_
  rintro e w3 ⟨rfl, ho, hu⟩
  go_wp2_with fail
  go_end0
  exact ⟨rfl, ho, ((Upd.of hb2).then hq).trans hu⟩
def DoneTo (o : OutP) (w : World) (e : Ending) (w' : World) : Prop := ∃ v, e = .returned (.tuple #[v, .int .i64 (doneP o).2]) ∧ Bs w' v (doneP o).1 ∧ Below w.heap.size w w'
set_option maxRecDepth 100000 in
theorem outdone_any (g : Nat) (o : OutP) (w : World) (h : OutIs w g o) (_hsz : o.b.length ≤ 1000000) :
    Calls Try.prog 30 #[.pointer (some ⟨g, 0, none⟩)] w (DoneTo o w) := by
  obtain ⟨v, hr, hv⟩ := h
  obtain ⟨c0, c1⟩ := row2_cells hr
  by_cases h0 : o.e = 0
  · have e1 : ((o.e : Int) != 0) = false := by simpa using h0
    have ed : doneP o = (o.b, 0) := by unfold doneP; rw [if_pos h0]
    go_enter Try.func30, Try.ntmps30
    go_wp2_with fail
    refine (clone_bs hv).mono ?_
    rintro e w2 ⟨v2, rfl, hv2, hb2⟩
    go_wp2_with fail
    refine bodyPost_ret (results_tmp2 rfl _ _ _) rfl ?_
    exact ⟨v2, by rw [ed]; rfl, by rw [ed]; exact hv2, hb2⟩
  · have e1 : ((o.e : Int) != 0) = true := by simpa using h0
    have ed : doneP o = ([], o.e) := by unfold doneP; rw [if_neg h0]
    go_enter Try.func30, Try.ntmps30
    go_wp2_with (first | (refine wp_region_lex [] (by kernel_rfl) (by decide +kernel) ?_) | (refine wpLex_nil ?_) | (refine wpLex_pure rfl (fun _ _ => ?_); go_simp; try go_bits) | (refine wpLex_read rfl (fun _ _ => ?_); go_simp; try go_bits) | (refine wpLex_loud rfl (fun _ _ => ?_)))
    refine bodyPost_ret (results_tmp2 rfl _ _ _) rfl ?_
    exact ⟨_, by rw [ed]; rfl, by rw [ed]; exact Bs.nil _, (Below.refl _ _).drew⟩
end
section
open Go.RowKit
theorem highX_2 (n : UInt64) : highX n 2 = highB n 2 := by rw [highX_def, lowX, if_pos (by omega)]; rfl
theorem n64_nat (n : Nat) (h : n ≤ 140737488351232) : n64 (UInt64.ofNat n) = (n : Int) := by rw [n64_def, UInt64.toNat_ofNat']; omega
theorem high2_own (n : UInt64) (w : World) : Calls Try.prog 67 #[.int .u64 (n64 n), .int .i64 2] w (OwnRes 5 w (highX n 2)) := by
  refine (high_any n 2 (by omega) (by omega) w).mono ?_
  rintro e w' ⟨m, rfl, rfl⟩
  rw [highX_2]
  have h := Own8.new 5 w w.heap.size (highB n 2) (Nat.le_refl _) (by rw [highB_length]; simp [maxLen])
  rw [highB_length] at h
  exact ⟨_, _, by rw [highB_length], by rw [highB_length]; exact h.drewN, below_drewN ((Below.refl _ _).alloc (Nat.le_refl _) _)⟩
theorem flat_take_succ (ks : BLs) (k : Nat) (h : k < ks.length) : (ks.take (k + 1)).flatten = (ks.take k).flatten ++ nthL ks k := by
  rw [List.take_add_one, List.flatten_append, nthL_def, List.getD_eq_getElem?_getD, List.getElem?_eq_getElem h]
  simp
theorem flat_take_len {ks : BLs} (hl : ∀ k ∈ ks, k.length = 32) (k : Nat) (h : k ≤ ks.length) : (ks.take k).flatten.length = 32 * k := by
  rw [flat32 _ (fun x hx => hl x (List.mem_of_mem_take hx)), List.length_take]; omega
set_option maxRecDepth 100000 in
set_option maxHeartbeats 3200000 in
theorem outkeys_any (g : Nat) (o : OutP) (v : Value) (ks : BLs) (w : World) (h : OutIs w g o) (hv : KsL w v ks) (hl : ∀ k ∈ ks, k.length = 32) (hn : ks.length ≤ 1000) (hsz : o.b.length ≤ 500000) :
    Calls Try.prog 28 #[.pointer (some ⟨g, 0, none⟩), v] w (OutTo g (okeysP o ks) w) := by
  have hfl := flat32 ks hl
  have hput := fun (vl : Value) (W : World) q1 q2 => put_any g o (decide (100 < ks.length)) 2 (by omega) vl [highX (UInt64.ofNat ks.length) 2 ++ ks.flatten] (highX (UInt64.ofNat ks.length) 2 ++ ks.flatten) (by simp) W q1 q2 (by simp) (by rw [List.length_append, len2]; omega)
  have HP := Lib.hid hput
  have hh := high2_own (UInt64.ofNat ks.length)
  rw [n64_nat _ (by omega)] at hh
  have HH := Lib.hid hh
  unfold okeysP
  have hXl := len2 ks.length
  clear hput hh
  obtain ⟨X, hX⟩ : ∃ X, X = highX (UInt64.ofNat ks.length) 2 := ⟨_, rfl⟩
  rw [← hX] at HP HH hXl ⊢
  clear hX
  obtain ⟨A, c, rfl, -, hrd⟩ := id hv
  have HRD := Lib.hid hrd
  obtain ⟨n, hN⟩ : ∃ N, N = ks.length := ⟨_, rfl⟩
  have hd : decide ((100 : Int) < (n : Int)) = decide (100 < ks.length) := by rw [← hN]; by_cases h4 : 100 < n <;> simp [h4] <;> omega
  rw [← hd] at HP ⊢
  rw [← hN] at HH hn ⊢
  have HN := Lib.hid hN
  have HO := Lib.hid h
  clear hN hd hv h hfl hrd
  have i1 : (n : Int) ≤ 18446744073709551615 := by omega
  go_enter Try.func28, Try.ntmps28
  go_wp2_with fail
  refine (HH.out _).mono ?_
  rintro e w1 ⟨A1, c1, rfl, own1, hb1⟩
  go_wp2_with fail
  go_loopw [4, 13] (fun v i wr => ∃ k : Nat, k ≤ n ∧ i = .int .i64 k ∧ Own8 5 wr w.heap.size v (X ++ (ks.take k).flatten) ∧ Below w.heap.size w wr) (fun _ i _ => n - (intOf i).toNat)
  case atStart => exact ⟨0, Nat.zero_le _, rfl, by rw [hXl] at own1; simpa using own1, hb1⟩
  case round =>
    obtain ⟨k, hk, rfl, own, hb⟩ := hrel
    by_cases hlt : k < n
    · have hlt' : k < ks.length := by rw [← HN.out]; exact hlt
      obtain ⟨gk, ok, rfl, hgk, hrk⟩ := HRD.out (by omega)
      have hrk' := hrk k hlt'
      have hK := nthL_all hl hlt'
      have hcat := flat_take_succ ks k hlt'
      have hcl := flat_take_len hl (k + 1) (by omega)
      obtain ⟨K, hKe⟩ : ∃ K, K = nthL ks k := ⟨_, rfl⟩
      rw [← hKe] at hrk' hK hcat
      have hld : (loadAgg 72 (.pointer (some ⟨gk, ok + k * 32, none⟩))).run Try.prog wr = .ok (.value (.agg (u8s K))) wr :=
        key_load (fun j u hu => by rw [hb.cell (p := ⟨gk, ok + k * 32 + j, none⟩) hgk]; exact hrk' j u hu) hK
      have hbs : Bs (wr.alloc (.cells (u8s K) 72)) (.slice (some ⟨wr.heap.size, 0, none⟩) 32 32) K := Bs.row (RowIs.new _ _ _) 32 32 hK.symm (by omega) (by omega)
      have hq : Below wr.heap.size wr (wr.alloc (.cells (u8s K) 72)) := (by repeat (first | with_reducible exact Below.refl _ _ | with_reducible assumption | refine Below.drew ?_ | refine below_drewN ?_ | refine Below.alloc ?_ (by first | omega | (simp; done) | (simp; omega)) _ | refine below_setRow ?_ (by omega) _ | refine Below.setCell ?_ (by first | omega | (simp; done) | (simp; omega)) _))
      have hsz2 : w.heap.size ≤ (wr.alloc (.cells (u8s K) 72)).heap.size := Nat.le_trans hb.size hq.size
      have hLL : X ++ (ks.take k).flatten ++ K = X ++ (ks.take (k + 1)).flatten := by rw [hcat, List.append_assoc]
      have hNN : (X ++ (ks.take (k + 1)).flatten).length = 2 + 32 * (k + 1) := by rw [List.length_append, hcl, hXl]
      have hk0 : (0 : Int) ≤ (k : Int) := by omega
      have hk1 : (k : Int) < (n : Int) := by omega
      have HCAT := Lib.hid hcat
      clear hKe hrk hrk' hcat hcl
      go_wp2_with (at_builtin; refine wpList_appendBs Try.underlying25 Try.info8 rfl (.tmp 17) (.tmp 18) rfl w.heap.size rfl (own.alloc _) rfl hbs hLL hNN (by omega) hsz2 ?_; intro A5 c5 w5 own5 bel5)
      exact ⟨⟨k + 1, by omega, by go_num, own5, (hb.trans (hq.mono hb.size)).trans bel5⟩, by simp [intOf]; omega⟩
    · have e : k = n := by omega
      subst e
      have hT : (ks.take k).flatten = ks.flatten := by rw [List.take_of_length_le (by rw [HN.out]; omega)]
      rw [hT] at own
      have hsm : (X ++ ks.flatten).length ≤ 140737488351232 := by rw [List.length_append, flat32 ks hl, ← HN.out]; omega
      have hbs := own.bs hsm
      obtain ⟨A5, c5, rfl, -⟩ := id hbs
      obtain ⟨N5, hN5⟩ : ∃ N, N = (X ++ ks.flatten).length := ⟨_, rfl⟩
      rw [← hN5] at hbs ⊢
      clear hN5 own
      go_wp2_with fail
      have hq : Below wr.heap.size wr (wr.alloc (.cells #[.slice A5 N5 c5] 25)) := (by repeat (first | with_reducible exact Below.refl _ _ | with_reducible assumption | refine Below.drew ?_ | refine below_drewN ?_ | refine Below.alloc ?_ (by first | omega | (simp; done) | (simp; omega)) _ | refine below_setRow ?_ (by omega) _ | refine Below.setCell ?_ (by first | omega | (simp; done) | (simp; omega)) _))
      refine (HP.out _ _ ((HO.out.step hb).step hq) ?_).mono ?_
      · exact BsL.lit1 (gg := wr.heap.size) 25 rfl hbs
      · rintro e w3 ⟨rfl, ho, hu⟩
        go_wp2_with fail
        go_end0
        exact ⟨rfl, ho, ((Upd.of hb).then hq).trans hu⟩
end
section
open Go.RowKit
theorem Own8.bsN {T : TypeId} {w : World} {base N c : Nat} {A : Option Addr} {b : List UInt8} (h : Own8 T w base (.slice A N c) b) (hN : b.length = N) (hl : N ≤ 140737488351232) : Bs w (.slice A N c) b := by
  subst hN; exact h.bs hl
set_option maxRecDepth 100000 in
set_option maxHeartbeats 1600000 in
theorem add_any (g : Nat) (o : OutP) (er : Int) (v : Value) (x : List UInt8) (w : World) (h : OutIs w g o) (hv : Bs w v x) (hsz : o.b.length + x.length ≤ 1000000) :
    Calls Try.prog 71 #[.pointer (some ⟨g, 0, none⟩), .int .i64 er, v] w (OutTo g (putP o (decide (er ≠ 0)) er x) w) := by
  obtain ⟨u, hr, hu⟩ := h
  obtain ⟨c0, c1⟩ := row2_cells hr
  have f0 := hr.fz 0
  have f1 := hr.fz 1
  have hgl := hr.lt
  by_cases h0 : o.e = 0
  · have e0 : ((o.e : Int) != 0) = false := by simpa using h0
    by_cases h1 : er = 0
    · have ep : putP o (decide (er ≠ 0)) er x = ⟨o.b ++ x, 0⟩ := by unfold putP; rw [if_pos h0, h1]; rfl
      rw [ep]
      subst h1
      obtain ⟨Av, cv, rfl, -⟩ := id hv
      obtain ⟨Au, cu, rfl, -⟩ := id hu
      have hq : Below w.heap.size w (w.alloc (.cells #[] 5)) := (by repeat (first | with_reducible exact Below.refl _ _ | with_reducible assumption | refine Below.drew ?_ | refine below_drewN ?_ | refine Below.alloc ?_ (by first | omega | (simp; done) | (simp; omega)) _ | refine below_setRow ?_ (by omega) _ | refine Below.setCell ?_ (by first | omega | (simp; done) | (simp; omega)) _))
      have own0 := Own8.empty (T := 5) (g := w.heap.size) w (base := w.heap.size) rfl (Nat.le_refl _)
      have hu2 := hu.step hq
      have hv2 := hv.step hq
      have hr2 := hr.step hq
      have hz2 := hq.size
      have hN1 : (o.b ++ x).length = o.b.length + x.length := by rw [List.length_append]
      go_enter Try.func71, Try.ntmps71
      go_wp2_with (at_builtin; first
        | (refine wpList_appendBs Try.underlying25 Try.info8 rfl (.tmp 18) (.tmp 22) rfl w.heap.size rfl own0 rfl hu2 (List.nil_append _) rfl (by omega) hz2 ?_; intro A5 c5 w5 own5 bel5; have hb5 := hq.trans bel5; have hv5 := hv.step hb5; have hz5 := hb5.size)
        | (refine wpList_appendBs Try.underlying25 Try.info8 rfl (.tmp 23) (.tmp 24) rfl w.heap.size rfl own5 rfl hv5 rfl hN1 (by omega) (by omega) ?_; intro A6 c6 w6 own6 bel6; have hb6 := hb5.trans bel6; have hr6 := hr.step hb6; have f06 := hr6.fz 0; have c06 := (row2_cells hr6).1))
      go_end0
      have hs6 := own6.bsN hN1 (by omega)
      exact ⟨rfl, ⟨_, by rw [h0] at hr6; exact row2_put0 hr6, hs6.upd ((Upd.refl g w6).put 0 _) (no8_row hr6 (by simp))⟩, (Upd.of hb6).put 0 _⟩
    · have ep : putP o (decide (er ≠ 0)) er x = ⟨o.b, er⟩ := by unfold putP; rw [if_pos h0, decide_eq_true h1]; rfl
      have e1 : ((er : Int) != 0) = true := by simpa using h1
      rw [ep]
      go_enter Try.func71, Try.ntmps71
      go_wp2_with fail
      go_end0
      exact ⟨rfl, ⟨u, row2_put1 hr, hu.upd ((Upd.refl g w).put 1 _) (row2_no8 hr hu)⟩, (Upd.refl g w).put 1 _⟩
  · have ep : putP o (decide (er ≠ 0)) er x = o := by unfold putP; rw [if_neg h0]
    have e0 : ((o.e : Int) != 0) = true := by simpa using h0
    rw [ep]
    go_enter Try.func71, Try.ntmps71
    go_wp2_with fail
    go_end0
    exact ⟨rfl, ⟨u, hr, hu⟩, Upd.refl g w⟩
theorem fits_iff (n : UInt64) (k : Int) (hk : sizeOk k = true) : (ofHighB (highX n k) = n) ↔ fitsN n k = true := by
  refine ⟨fun h => ?_, fun h => ofHigh_highX n k hk h⟩
  unfold sizeOk at hk; rw [decide_eq_true_eq] at hk
  obtain ⟨m, rfl⟩ : ∃ m : Nat, k = m := ⟨k.toNat, by omega⟩
  rw [← h]
  exact fits_ofHigh _ m (by omega) (highX_len n m (by omega))
theorem refOfHigh_b {w : World} {a : Value} {l : List UInt8} (ha : Bs w a l) : Calls Try.prog 69 #[a] w fun e w' => e = .returned (.int .u64 (n64 (ofHighB l))) ∧ w = w' := by
  rw [ofHighB_def, ← ofHigh_ref]; exact refOfHigh_bs ha
theorem ofHigh_b {w : World} {a : Value} {l : List UInt8} (ha : Bs w a l) : Calls Try.prog 75 #[a] w fun e w' => e = .returned (.int .u64 (n64 (ofHighB l))) ∧ w = w' := by
  rw [ofHighB_def]; exact ofHigh_bs ha
theorem n64_bne (a b : UInt64) : (n64 a != n64 b) = !decide (a = b) := by
  by_cases h : a = b
  · subst h; simp
  · have : n64 a ≠ n64 b := fun e => h (UInt64.toNat_inj.1 (by rw [n64_def, n64_def] at e; omega))
    simp [h, this]
set_option maxRecDepth 100000 in
set_option maxHeartbeats 1600000 in
theorem refoutnum_any (g : Nat) (o : OutP) (n : UInt64) (k : Int) (w : World) (h : OutIs w g o) (hsz : o.b.length ≤ 900000) :
    Calls Try.prog 25 #[.pointer (some ⟨g, 0, none⟩), .int .u64 (n64 n), .int .i64 k] w (OutTo g (onumP o n k) w) := by
  have hl8 := highX_length n k
  have HA := Lib.hid (fun (v : Value) (W : World) q1 q2 => add_any g o 0 v (highX n k) W q1 q2 (by omega))
  have HE := Lib.hid (fun (W : World) q1 => add_any g o 51 (.slice none 0 0) [] W q1 (Bs.nil _) (by simp; omega))
  have HH := Lib.hid (refHigh_bs n k)
  by_cases hk : sizeOk k = true
  · have hfi := fits_iff n k hk
    by_cases hf : fitsN n k = true
    · have hwr : onumP o n k = putP o false 0 (highX n k) := by unfold onumP putP; rw [hk, hf]; rfl
      have hne : (n64 (ofHighB (highX n k)) != n64 n) = false := by rw [n64_bne, decide_eq_true (hfi.2 hf)]; rfl
      rw [hwr]
      obtain ⟨X, hX⟩ : ∃ X, X = highX n k := ⟨_, rfl⟩
      rw [← hX] at HA HH hne ⊢
      clear hX hwr hl8 hfi
      go_enter Try.func25, Try.ntmps25
      go_wp2_with fail
      refine (refsize_any k _).mono ?_
      rintro e w1 ⟨rfl, rfl⟩
      rw [hk]
      go_wp2_with fail
      refine (HH.out _).mono ?_
      rintro e w2 ⟨v2, rfl, hv2, hb2⟩
      go_wp2_with fail
      refine (refOfHigh_b hv2).mono ?_
      rintro e w3 ⟨rfl, rfl⟩
      go_wp2_with fail
      refine (HH.out _).mono ?_
      rintro e w4 ⟨v4, rfl, hv4, hb4⟩
      go_wp2_with fail
      refine (HA.out _ _ ((h.step hb2).step hb4) hv4).mono ?_
      rintro e w5 ⟨rfl, ho, hu⟩
      go_wp2_with fail
      go_end0
      exact ⟨rfl, ho, ((Upd.of hb2).then hb4).trans hu⟩
    · have hwr : onumP o n k = putP o true 51 [] := by
        have hf' : fitsN n k = false := by simpa using hf
        unfold onumP putP; rw [hk, hf']; rfl
      have hne : (n64 (ofHighB (highX n k)) != n64 n) = true := by rw [n64_bne, decide_eq_false (fun e => hf (hfi.1 e))]; rfl
      rw [hwr]
      obtain ⟨X, hX⟩ : ∃ X, X = highX n k := ⟨_, rfl⟩
      rw [← hX] at HA HH hne
      clear hX hwr hl8 hfi
      go_enter Try.func25, Try.ntmps25
      go_wp2_with fail
      refine (refsize_any k _).mono ?_
      rintro e w1 ⟨rfl, rfl⟩
      rw [hk]
      go_wp2_with fail
      refine (HH.out _).mono ?_
      rintro e w2 ⟨v2, rfl, hv2, hb2⟩
      go_wp2_with fail
      refine (refOfHigh_b hv2).mono ?_
      rintro e w3 ⟨rfl, rfl⟩
      go_wp2_with fail
      refine (HE.out _ (h.step hb2)).mono ?_
      rintro e w5 ⟨rfl, ho, hu⟩
      go_wp2_with fail
      go_end0
      exact ⟨rfl, ho, (Upd.of hb2).trans hu⟩
  · have hkf : sizeOk k = false := by simpa using hk
    have hwr : onumP o n k = putP o true 51 [] := by unfold onumP putP; rw [hkf]; rfl
    rw [hwr]
    clear hwr hl8 HA HH
    go_enter Try.func25, Try.ntmps25
    go_wp2_with fail
    refine (refsize_any k _).mono ?_
    rintro e w1 ⟨rfl, rfl⟩
    rw [hkf]
    go_wp2_with fail
    refine (HE.out _ h).mono ?_
    rintro e w5 ⟨rfl, ho, hu⟩
    go_wp2_with fail
    go_end0
    exact ⟨rfl, ho, hu⟩
theorem refhigh2_own (n : UInt64) (w : World) : Calls Try.prog 70 #[.int .u64 (n64 n), .int .i64 2] w (OwnRes 5 w (highX n 2)) :=
  (refHigh_num n 2 w).mono fun _ _ h => by rw [highX_def]; exact h
set_option maxRecDepth 100000 in
set_option maxHeartbeats 1600000 in
theorem refoutbytes_any (g : Nat) (o : OutP) (v : Value) (b : List UInt8) (w : World) (h : OutIs w g o) (hv : Bs w v b) (hsz : o.b.length + b.length ≤ 900000) :
    Calls Try.prog 27 #[.pointer (some ⟨g, 0, none⟩), v] w (OutTo g (obytesP o b) w) := by
  have hXl := len2 b.length
  have HA := Lib.hid (fun (v : Value) (W : World) q1 q2 => add_any g o 0 v (highX (UInt64.ofNat b.length) 2 ++ b) W q1 q2 (by rw [List.length_append]; omega))
  have HE := Lib.hid (fun (W : World) q1 => add_any g o 2 (.slice none 0 0) [] W q1 (Bs.nil _) (by simp; omega))
  have hh := refhigh2_own (UInt64.ofNat b.length)
  rw [n64_nat _ (by omega)] at hh
  have HH := Lib.hid hh
  clear hh
  have hwr0 : b.length ≤ 4000 → obytesP o b = putP o false 0 (highX (UInt64.ofNat b.length) 2 ++ b) := fun h => by unfold obytesP putP; rw [decide_eq_false (by omega)]; rfl
  have hwr1 : 4000 < b.length → obytesP o b = putP o true 2 [] := fun h => by unfold obytesP putP; rw [decide_eq_true (by omega)]; rfl
  obtain ⟨X, hX⟩ : ∃ X, X = highX (UInt64.ofNat b.length) 2 := ⟨_, rfl⟩
  rw [← hX] at HA HH hwr0 hXl
  clear hX
  obtain ⟨A, c, rfl, -⟩ := id hv
  obtain ⟨N, hN⟩ : ∃ N, N = b.length := ⟨_, rfl⟩
  rw [← hN] at hv HH hwr0 hwr1 hsz ⊢
  have i1 : (N : Int) ≤ 18446744073709551615 := by omega
  by_cases h4 : 4000 < N
  · rw [hwr1 h4]
    have j1 : (4000 : Int) < (N : Int) := by omega
    clear hwr0 hwr1 hN HH HA
    go_enter Try.func27, Try.ntmps27
    go_wp2_with fail
    refine (HE.out _ h).mono ?_
    rintro e w5 ⟨rfl, ho, hu⟩
    go_wp2_with fail
    go_end0
    exact ⟨rfl, ho, hu⟩
  · rw [hwr0 (by omega)]
    have j1 : ¬ (4000 : Int) < (N : Int) := by omega
    have hNN : (X ++ b).length = 2 + N := by rw [List.length_append, hXl, hN]
    have hXX : X.length = 2 := hXl
    have HNN := Lib.hid hNN
    clear hwr0 hwr1 hN hNN
    go_enter Try.func27, Try.ntmps27
    go_wp2_with fail
    refine (HH.out _).mono ?_
    rintro e w2 ⟨A2, c2, rfl, own2, hb2⟩
    have hv2 := hv.step hb2
    have hz2 := hb2.size
    rw [hXX] at own2
    go_wp2_with (at_builtin; refine wpList_appendBs Try.underlying25 Try.info8 rfl (.tmp 13) (.tmp 14) rfl w.heap.size rfl own2 rfl hv2 rfl HNN.out (by omega) hz2 ?_; intro A5 c5 w5 own5 bel5)
    have hb5 := hb2.trans bel5
    refine (HA.out _ _ (h.step hb5) (own5.bsN HNN.out (by omega))).mono ?_
    rintro e w6 ⟨rfl, ho, hu⟩
    go_wp2_with fail
    go_end0
    exact ⟨rfl, ho, (Upd.of hb5).trans hu⟩
set_option maxRecDepth 100000 in
set_option maxHeartbeats 3200000 in
theorem refoutkeys_any (g : Nat) (o : OutP) (v : Value) (ks : BLs) (w : World) (h : OutIs w g o) (hv : KsL w v ks) (hl : ∀ k ∈ ks, k.length = 32) (hn : ks.length ≤ 1000) (hsz : o.b.length ≤ 500000) :
    Calls Try.prog 29 #[.pointer (some ⟨g, 0, none⟩), v] w (OutTo g (okeysP o ks) w) := by
  have hfl := flat32 ks hl
  have hXl := len2 ks.length
  have HA := Lib.hid (fun (v : Value) (W : World) q1 q2 => add_any g o 0 v (highX (UInt64.ofNat ks.length) 2 ++ ks.flatten) W q1 q2 (by rw [List.length_append]; omega))
  have HE := Lib.hid (fun (W : World) q1 => add_any g o 2 (.slice none 0 0) [] W q1 (Bs.nil _) (by simp; omega))
  have hh := refhigh2_own (UInt64.ofNat ks.length)
  rw [n64_nat _ (by omega)] at hh
  have HH := Lib.hid hh
  clear hh
  have hwr0 : ks.length ≤ 100 → okeysP o ks = putP o false 0 (highX (UInt64.ofNat ks.length) 2 ++ ks.flatten) := fun h => by unfold okeysP putP; rw [decide_eq_false (by omega)]; rfl
  have hwr1 : 100 < ks.length → okeysP o ks = putP o true 2 [] := fun h => by unfold okeysP putP; rw [decide_eq_true (by omega)]; rfl
  obtain ⟨X, hX⟩ : ∃ X, X = highX (UInt64.ofNat ks.length) 2 := ⟨_, rfl⟩
  rw [← hX] at HA HH hwr0 hXl
  clear hX
  obtain ⟨A, c, rfl, -, hrd⟩ := id hv
  have HRD := Lib.hid hrd
  obtain ⟨n, hN⟩ : ∃ N, N = ks.length := ⟨_, rfl⟩
  rw [← hN] at HH hn hwr0 hwr1 ⊢
  have HN := Lib.hid hN
  have HO := Lib.hid h
  clear hN hv h hfl hrd
  have i1 : (n : Int) ≤ 18446744073709551615 := by omega
  by_cases h4 : 100 < n
  · rw [hwr1 h4]
    have j1 : (100 : Int) < (n : Int) := by omega
    clear hwr0 hwr1 HH HA
    go_enter Try.func29, Try.ntmps29
    go_wp2_with fail
    refine (HE.out _ HO.out).mono ?_
    rintro e w5 ⟨rfl, ho, hu⟩
    go_wp2_with fail
    go_end0
    exact ⟨rfl, ho, hu⟩
  · rw [hwr0 (by omega)]
    have j1 : ¬ (100 : Int) < (n : Int) := by omega
    clear hwr0 hwr1
    go_enter Try.func29, Try.ntmps29
    go_wp2_with fail
    refine (HH.out _).mono ?_
    rintro e w1 ⟨A1, c1, rfl, own1, hb1⟩
    go_wp2_with fail
    go_loopw [4, 5] (fun v i wr => ∃ k : Nat, k ≤ n ∧ i = .int .i64 k ∧ Own8 5 wr w.heap.size v (X ++ (ks.take k).flatten) ∧ Below w.heap.size w wr) (fun _ i _ => n - (intOf i).toNat)
    case atStart => exact ⟨0, Nat.zero_le _, rfl, by rw [hXl] at own1; simpa using own1, hb1⟩
    case round =>
      obtain ⟨k, hk, rfl, own, hb⟩ := hrel
      by_cases hlt : k < n
      · have hlt' : k < ks.length := by rw [← HN.out]; exact hlt
        obtain ⟨gk, ok, rfl, hgk, hrk⟩ := HRD.out (by omega)
        have hrk' := hrk k hlt'
        have hK := nthL_all hl hlt'
        have hcat := flat_take_succ ks k hlt'
        have hcl := flat_take_len hl (k + 1) (by omega)
        obtain ⟨K, hKe⟩ : ∃ K, K = nthL ks k := ⟨_, rfl⟩
        rw [← hKe] at hrk' hK hcat
        have hld : (loadAgg 72 (.pointer (some ⟨gk, ok + k * 32, none⟩))).run Try.prog wr = .ok (.value (.agg (u8s K))) wr :=
          key_load (fun j u hu => by rw [hb.cell (p := ⟨gk, ok + k * 32 + j, none⟩) hgk]; exact hrk' j u hu) hK
        have hLL : X ++ (ks.take k).flatten ++ K = X ++ (ks.take (k + 1)).flatten := by rw [hcat, List.append_assoc]
        have hNN : (X ++ (ks.take (k + 1)).flatten).length = 2 + 32 * (k + 1) := by rw [List.length_append, hcl, hXl]
        have hk0 : (0 : Int) ≤ (k : Int) := by omega
        have hk1 : (k : Int) < (n : Int) := by omega
        have hsz := hb.size
        clear hKe hrk hrk' hcat hcl
        go_wp2_with fail
        refine (bytes_bs K hK _).mono ?_
        rintro e w4 ⟨v4, rfl, hbs, hq⟩
        have own4 := own.step hq
        have hsz2 : w.heap.size ≤ w4.heap.size := Nat.le_trans hsz hq.size
        clear hld
        go_wp2_with (at_builtin; refine wpList_appendBs Try.underlying25 Try.info8 rfl (.tmp 21) (.tmp 26) rfl w.heap.size rfl own4 rfl hbs hLL hNN (by omega) hsz2 ?_; intro A5 c5 w5 own5 bel5)
        exact ⟨⟨k + 1, by omega, by go_num, own5, (hb.trans (hq.mono hb.size)).trans bel5⟩, by simp [intOf]; omega⟩
      · have e : k = n := by omega
        subst e
        have hT : (ks.take k).flatten = ks.flatten := by rw [List.take_of_length_le (by rw [HN.out]; omega)]
        rw [hT] at own
        have hsm : (X ++ ks.flatten).length ≤ 140737488351232 := by rw [List.length_append, flat32 ks hl, ← HN.out]; omega
        have hbs := own.bs hsm
        go_wp2_with fail
        refine (HA.out _ _ (HO.out.step hb) hbs).mono ?_
        rintro e w3 ⟨rfl, ho, hu⟩
        go_wp2_with fail
        go_end0
        exact ⟨rfl, ho, (Upd.of hb).trans hu⟩
set_option maxRecDepth 100000 in
theorem refoutdone_any (g : Nat) (o : OutP) (w : World) (h : OutIs w g o) :
    Calls Try.prog 31 #[.pointer (some ⟨g, 0, none⟩)] w (DoneTo o w) := by
  obtain ⟨v, hr, hv⟩ := h
  obtain ⟨c0, c1⟩ := row2_cells hr
  by_cases h0 : o.e = 0
  · have e1 : ((o.e : Int) != 0) = false := by simpa using h0
    have ed : doneP o = (o.b, 0) := by unfold doneP; rw [if_pos h0]
    go_enter Try.func31, Try.ntmps31
    go_wp2_with fail
    refine bodyPost_ret (results_tmp2 rfl _ _ _) rfl ?_
    exact ⟨v, by rw [ed]; rfl, by rw [ed]; exact hv, Below.refl _ _⟩
  · have e1 : ((o.e : Int) != 0) = true := by simpa using h0
    have ed : doneP o = ([], o.e) := by unfold doneP; rw [if_neg h0]
    go_enter Try.func31, Try.ntmps31
    go_wp2_with (first | (refine wp_region_lex [] (by kernel_rfl) (by decide +kernel) ?_) | (refine wpLex_nil ?_) | (refine wpLex_pure rfl (fun _ _ => ?_); go_simp; try go_bits) | (refine wpLex_read rfl (fun _ _ => ?_); go_simp; try go_bits) | (refine wpLex_loud rfl (fun _ _ => ?_)))
    refine bodyPost_ret (results_tmp2 rfl _ _ _) rfl ?_
    exact ⟨_, by rw [ed]; rfl, by rw [ed]; exact Bs.nil _, (Below.refl _ _).drew⟩
end
end Go.Proofs.Ytifnpphkplogaaa
