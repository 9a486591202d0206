/- Layer 26: Lost: what was sent, and never fetched. -/
import Derived.Test.YtlfplikkifjnfaaMdl9
namespace Go.Proofs.Ytlfplikkifjnfaa
open Go.RowKit
def lostP (d who code : Int) (x : List UInt8) (s : BL × BL) : BL × BL :=
  if tellsB d who code = true ∧ d = 6 then (if who = 0 then (s.1, pickP x s.2) else (pickP x s.1, s.2)) else (seeP d who code x s).2
def lostK (es : List Ev) : Nat → BL × BL
  | 0 => ([], [])
  | k + 1 => lostP (nthE es k).d (nthE es k).who (nthE es k).code (nthE es k).b (lostK es k)
theorem pickP_len (u : List UInt8) : ∀ ls : BL, (pickP u ls).length ≤ ls.length
  | [] => by simp [pickP]
  | m :: r => by
    have := pickP_len u r
    by_cases h : m = u <;> simp [pickP, h]
    omega
theorem lostP_len (d who code : Int) (x : List UInt8) (s : BL × BL) : (lostP d who code x s).1.length ≤ s.1.length + 1 ∧ (lostP d who code x s).2.length ≤ s.2.length + 1 := by
  have h1 := pickP_len x s.1
  have h2 := pickP_len x s.2
  have h3 := seeP_len d who code x s
  unfold lostP
  split
  · split
    · exact ⟨by simp, by simp; omega⟩
    · exact ⟨by simp; omega, by simp⟩
  · exact h3
theorem lostK_len (es : List Ev) : ∀ k, (lostK es k).1.length ≤ k ∧ (lostK es k).2.length ≤ k
  | 0 => ⟨by simp [lostK], by simp [lostK]⟩
  | k + 1 => by
    have h := lostK_len es k
    have h2 := lostP_len (nthE es k).d (nthE es k).who (nthE es k).code (nthE es k).b (lostK es k)
    show (lostP _ _ _ _ _).1.length ≤ k + 1 ∧ (lostP _ _ _ _ _).2.length ≤ k + 1
    exact ⟨by omega, by omega⟩
theorem evZ : #[Value.int .i64 0, .int .i64 0, .int .i64 0, .slice none 0 0] = evC 0 0 0 (.slice none 0 0) := by rw [evC_def]; rfl
theorem evStore (w : World) (g : Nat) (cs : Array Value) (hr : (rowOf w g).size = 4) (hc : cs.size = 4) (h1 : cs.all (·.oneCell') = true) :
    (storeAgg 36 (.pointer (some ⟨g, 0, none⟩)) (.agg cs)).run Try.prog w = .ok .skip (w.setRow g cs) :=
  run_storeAgg 4 36 (by omega) (by kernel_rfl) w g cs hr hc h1
/-- one Event's part in Lost: a fetch -/
def FetS (b : Nat) (cs : Array Value) (w : World) : Prop := RowIs w b cs
attribute [local go_sem] evStore evZ
set_option maxRecDepth 100000 in
set_option maxHeartbeats 3200000 in
theorem lost_any (A : Option Addr) (c : Nat) (es : List Ev) (w : World) (hr : RdEv w w.heap.size A es) (hl : es.length ≤ 500) :
    Calls Try.prog 10 #[.slice A es.length c] w (LeftRes ((lostK es es.length).1 ++ (lostK es es.length).2) w) := by
  have hB : Below w.heap.size w (w.alloc (.cells (qC (.slice none 0 0) 0 (.slice none 0 0) 0) 31)) := (by repeat (first | with_reducible exact Below.refl _ _ | with_reducible assumption | refine Below.drew ?_ | refine below_drewN ?_ | refine Below.alloc ?_ (by first | omega | (simp; done) | (simp; omega)) _ | refine below_setRow ?_ (by omega) _ | refine Below.setCell ?_ (by first | omega | (simp; done) | (simp; omega)) _))
  have R : RowIs (w.alloc (.cells (qC (.slice none 0 0) 0 (.slice none 0 0) 0) 31)) w.heap.size (qC (.slice none 0 0) 0 (.slice none 0 0) 0) := RowIs.new _ _ _
  have hs := Qs.new R hB.size
  have HRD := Lib.hid hr
  have HZ := qZ
  obtain ⟨m, hm⟩ : ∃ m, m = es.length := ⟨_, rfl⟩
  have HM := Lib.hid hm
  rw [← hm] at hl ⊢
  clear hr R hm
  go_enter Try.func10, Try.ntmps10
  go_wp2_with fail
  go_loopw [8] (fun i wr => ∃ k : Nat, i = .int .i64 k ∧ k ≤ m ∧ Below w.heap.size w wr ∧ Qs wr w.heap.size w.heap.size (lostK es k)) (fun i _ => m - (intOf i).toNat)
  case atStart => exact ⟨0, rfl, by omega, hB, hs⟩
  case round =>
    clear hs hB
    obtain ⟨k, rfl, hk, hB, hs⟩ := hrel
    obtain ⟨hl1, hl2⟩ := lostK_len es k
    by_cases hlt : k < m
    · have hlt' : k < es.length := by rw [← HM.out]; exact hlt
      obtain ⟨g, o, rfl, hg, hel⟩ := (HRD.out.keep hB) (by omega)
      obtain ⟨v, hat, hbv⟩ := hel k hlt'
      obtain ⟨hq1, hq2⟩ := hs.lt
      have hbs := hbv.bs (by omega)
      obtain ⟨Av, cv, ev⟩ := bytes_ne hbs
      obtain ⟨d, hd⟩ : ∃ d, d = (nthE es k).d := ⟨_, rfl⟩
      obtain ⟨who, hwho⟩ : ∃ d, d = (nthE es k).who := ⟨_, rfl⟩
      obtain ⟨code, hcode⟩ : ∃ d, d = (nthE es k).code := ⟨_, rfl⟩
      obtain ⟨x, hx⟩ : ∃ d, d = (nthE es k).b := ⟨_, rfl⟩
      have hnx : lostK es (k + 1) = lostP d who code x (lostK es k) := by rw [hd, hwho, hcode, hx]; rfl
      rw [← hd, ← hwho, ← hcode] at hat
      rw [← hx] at hbs ev
      have HNX := Lib.hid hnx
      subst ev
      have hL := ev_load hat
      have hk0 : (0 : Int) ≤ (k : Int) := by omega
      have hk1 : (k : Int) < m := by omega
      have hq7 : Below wr.heap.size wr (wr.alloc (.cells (evC 0 0 0 (.slice none 0 0)) 36)) := (by repeat (first | with_reducible exact Below.refl _ _ | with_reducible assumption | refine Below.drew ?_ | refine below_drewN ?_ | refine Below.alloc ?_ (by first | omega | (simp; done) | (simp; omega)) _ | refine below_setRow ?_ (by omega) _ | refine Below.setCell ?_ (by first | omega | (simp; done) | (simp; omega)) _))
      have R0 : RowIs (wr.alloc (.cells (evC 0 0 0 (.slice none 0 0)) 36)) wr.heap.size (evC 0 0 0 (.slice none 0 0)) := RowIs.new _ _ _
      have r1 := R0.has; have r2 := R0.row; have r3 := R0.lt
      have rs : (rowOf (wr.alloc (.cells (evC 0 0 0 (.slice none 0 0)) 36)) wr.heap.size).size = 4 := by rw [r1, evC_size]
      have hq8 : Below wr.heap.size wr (wr.alloc (.cells (evC d who code (.slice Av x.length cv)) 36)) := (by repeat (first | with_reducible exact Below.refl _ _ | with_reducible assumption | refine Below.drew ?_ | refine below_drewN ?_ | refine Below.alloc ?_ (by first | omega | (simp; done) | (simp; omega)) _ | refine below_setRow ?_ (by omega) _ | refine Below.setCell ?_ (by first | omega | (simp; done) | (simp; omega)) _))
      have R1 : RowIs (wr.alloc (.cells (evC d who code (.slice Av x.length cv)) 36)) wr.heap.size (evC d who code (.slice Av x.length cv)) := RowIs.new _ _ _
      have L := EvRow.load R1
      have k0 := EvRow.c0 R1
      replace hs := hs.step hq8
      replace hbs := hbs.step hq8
      have hb8 := hB.trans (hq8.mono hB.size)
      have T := tells_any d who code (.slice Av x.length cv) (wr.alloc (.cells (evC d who code (.slice Av x.length cv)) 36))
      have T := Lib.hid T
      have hz8 := hq8.size
      have hst := evStore (wr.alloc (.cells (evC 0 0 0 (.slice none 0 0)) 36)) wr.heap.size (evC d who code (.slice Av x.length cv)) rs (evC_size _ _ _ _) (evC_one _ _ _ _ _ _)
      clear hd hwho hcode hx hnx hel hbv hat hq7 R0
      go_wp2_with fail
      refine T.out.mono ?_
      rintro e w1 ⟨rfl, hb1⟩
      replace R1 := R1.step hb1
      replace hs := hs.step hb1
      replace hbs := hbs.step hb1
      replace hb8 := hb8.trans (hb1.mono hb8.size)
      have hwz : wr.heap.size < w1.heap.size := R1.lt
      have L := EvRow.load R1
      have k0 := EvRow.c0 R1
      clear T hst rs r1 r2 r3 hb1 hq8
      by_cases hf : tellsB d who code = true ∧ d = 6
      · have hd6 := hf.2
        subst hd6
        have ht := hf.1
        unfold tellsB at ht
        simp only [Bool.and_eq_true, Bool.or_eq_true, beq_iff_eq] at ht
        obtain ⟨⟨-, hco⟩, hw⟩ := ht
        subst hco
        have hlp : lostP 6 who 0 x (lostK es k) = (if who = 0 then ((lostK es k).1, pickP x (lostK es k).2) else (pickP x (lostK es k).1, (lostK es k).2)) := by unfold lostP; rw [if_pos hf]
        have ht1 := hf.1
        have HLP := Lib.hid hlp
        clear hf hlp
        rw [ht1]
        have k1 := EvRow.c1 R1
        rcases hw with rfl | rfl
        · have hlp2 := HLP.out
          rw [if_pos rfl, ← HNX.out] at hlp2
          have HLP2 := Lib.hid hlp2
          clear hlp2 HLP
          go_wp2_with fail
          refine wp_region_lexT [] [1, 5] (FetS wr.heap.size (evC 6 0 0 (.slice Av x.length cv))) (by kernel_rfl) (by decide +kernel) R1.drew (fun hS => ?_)
          have hd1 : Below w1.heap.size w1 w1.drew := (by repeat (first | with_reducible exact Below.refl _ _ | with_reducible assumption | refine Below.drew ?_ | refine below_drewN ?_ | refine Below.alloc ?_ (by first | omega | (simp; done) | (simp; omega)) _ | refine below_setRow ?_ (by omega) _ | refine Below.setCell ?_ (by first | omega | (simp; done) | (simp; omega)) _))
          replace hs := hs.step hd1
          replace hbs := hbs.step hd1
          replace hb8 := hb8.trans (hd1.mono hb8.size)
          replace hwz : wr.heap.size < w1.drew.heap.size := hwz
          clear R1 L k0 k1 hd1
          generalize w1.drew = w2 at hs hbs hb8 hS hwz ⊢
          (go_wp2_with (first | (refine wpLexT_pure rfl (fun _ _ => ?_); go_simp; refine ⟨_, fun w9 hw9 => (by have s1 := EvRow.c1 (show RowIs _ _ _ from hw9); have s3 := EvRow.load (show RowIs _ _ _ from hw9); go_simp; rfl), ?_⟩) | (refine wpLexT_pure0 rfl (fun _ _ => ?_); go_simp; try go_bits) | (refine wpLexT_read rfl (fun _ _ => ?_); go_simp; try go_bits)))
          refine wpLexT_loud rfl (fun KL hKL => ?_)
          go_wp2_with fail
          refine (is_any 6 0 0 (.slice Av x.length cv) w2).mono ?_
          rintro e w3 ⟨xb, rfl, hxb, Rx, hb3⟩
          go_wp2_with fail
          refine hKL _ _ (RowIs.step hS hb3) (fun _ => ?_)
          replace hs := hs.step hb3
          replace hbs := hbs.step hb3
          replace hb8 := hb8.trans (hb3.mono hb8.size)
          have cx := EvRow.c3 Rx
          clear Rx hb3 hS
          refine wpLexT_last (fun KL hKL => ?_)
          go_wp2_with fail
          have CC := pick1_any w.heap.size w.heap.size xb _ x (lostK es k) w3 hs cx hbs (by omega)
          rw [← HLP2.out] at CC
          refine CC.mono ?_
          rintro e w4 ⟨rfl, hs4, hb4, -, -⟩
          clear CC cx
          go_wp2_with fail
          exact ⟨⟨k + 1, by go_num, by omega, hb8.trans (hb4.below (Nat.le_refl _)), hs4⟩, by simp [intOf]; omega⟩
        · have hlp2 := HLP.out
          rw [if_neg (by decide), ← HNX.out] at hlp2
          have HLP2 := Lib.hid hlp2
          clear hlp2 HLP
          go_wp2_with fail
          refine wp_region_lexT [] [1, 5] (FetS wr.heap.size (evC 6 1 0 (.slice Av x.length cv))) (by kernel_rfl) (by decide +kernel) R1.drew (fun hS => ?_)
          have hd1 : Below w1.heap.size w1 w1.drew := (by repeat (first | with_reducible exact Below.refl _ _ | with_reducible assumption | refine Below.drew ?_ | refine below_drewN ?_ | refine Below.alloc ?_ (by first | omega | (simp; done) | (simp; omega)) _ | refine below_setRow ?_ (by omega) _ | refine Below.setCell ?_ (by first | omega | (simp; done) | (simp; omega)) _))
          replace hs := hs.step hd1
          replace hbs := hbs.step hd1
          replace hb8 := hb8.trans (hd1.mono hb8.size)
          replace hwz : wr.heap.size < w1.drew.heap.size := hwz
          clear R1 L k0 k1 hd1
          generalize w1.drew = w2 at hs hbs hb8 hS hwz ⊢
          (go_wp2_with (first | (refine wpLexT_pure rfl (fun _ _ => ?_); go_simp; refine ⟨_, fun w9 hw9 => (by have s1 := EvRow.c1 (show RowIs _ _ _ from hw9); have s3 := EvRow.load (show RowIs _ _ _ from hw9); go_simp; rfl), ?_⟩) | (refine wpLexT_pure0 rfl (fun _ _ => ?_); go_simp; try go_bits) | (refine wpLexT_read rfl (fun _ _ => ?_); go_simp; try go_bits)))
          refine wpLexT_loud rfl (fun KL hKL => ?_)
          go_wp2_with fail
          refine (is_any 6 1 0 (.slice Av x.length cv) w2).mono ?_
          rintro e w3 ⟨xb, rfl, hxb, Rx, hb3⟩
          go_wp2_with fail
          refine hKL _ _ (RowIs.step hS hb3) (fun _ => ?_)
          replace hs := hs.step hb3
          replace hbs := hbs.step hb3
          replace hb8 := hb8.trans (hb3.mono hb8.size)
          have cx := EvRow.c3 Rx
          clear Rx hb3 hS
          refine wpLexT_last (fun KL hKL => ?_)
          go_wp2_with fail
          have CC := pick0_any w.heap.size w.heap.size xb _ x (lostK es k) w3 hs cx hbs (by omega)
          rw [← HLP2.out] at CC
          refine CC.mono ?_
          rintro e w4 ⟨rfl, hs4, hb4, -, -⟩
          clear CC cx
          go_wp2_with fail
          exact ⟨⟨k + 1, by go_num, by omega, hb8.trans (hb4.below (Nat.le_refl _)), hs4⟩, by simp [intOf]; omega⟩
      · have hlp : lostP d who code x (lostK es k) = (seeP d who code x (lostK es k)).2 := by unfold lostP; rw [if_neg hf]
        have CC := see_any w.heap.size w.heap.size d who code _ x (lostK es k) w1 hs hbs (by omega) (by omega)
        unfold SeeRes at CC
        rw [← hlp, ← HNX.out] at CC
        have CC := Lib.hid CC
        by_cases ht : tellsB d who code = true
        · have hd6 : (d == 6) = false := by simp; exact fun e => hf ⟨ht, e⟩
          rw [ht]
          clear hf hlp ht
          go_wp2_with fail
          refine CC.out.mono ?_
          rintro e w2 ⟨rfl, hs2, hb2⟩
          go_wp2_with fail
          exact ⟨⟨k + 1, by go_num, by omega, hb8.trans (hb2.below (Nat.le_refl _)), hs2⟩, by simp [intOf]; omega⟩
        · have ht' : tellsB d who code = false := by simpa using ht
          rw [ht']
          clear hf hlp ht ht'
          go_wp2_with fail
          refine CC.out.mono ?_
          rintro e w2 ⟨rfl, hs2, hb2⟩
          go_wp2_with fail
          exact ⟨⟨k + 1, by go_num, by omega, hb8.trans (hb2.below (Nat.le_refl _)), hs2⟩, by simp [intOf]; omega⟩
    · have ek : k = m := by omega
      subst ek
      have CC0 := left_any w.heap.size w.heap.size 0 _ (lostK es k).1 wr hs (.inl ⟨rfl, rfl⟩) (by omega)
      have CC0 := Lib.hid CC0
      obtain ⟨hq1, hq2⟩ := hs.lt
      go_wp2_with fail
      refine CC0.out.mono ?_
      rintro e w1 ⟨v1, rfl, own1, hb1⟩
      replace hs := hs.step hb1
      replace hB := hB.trans (hb1.mono hB.size)
      have CC1 := Lib.hid (left_any w.heap.size w.heap.size 1 _ (lostK es k).2 w1 hs (.inr ⟨rfl, rfl⟩) (by omega))
      clear CC0 hb1
      go_wp2_with fail
      refine CC1.out.mono ?_
      rintro e w2 ⟨v2, rfl, own2, hb2⟩
      have hb1 := (own1.step hb2).bsl (by omega)
      have hbb2 := own2.bsl (by omega)
      replace hB := hB.trans (hb2.mono hB.size)
      obtain ⟨A1, c1, e1, -⟩ := own1.slice
      obtain ⟨A2, c2, e2, -⟩ := own2.slice
      obtain ⟨l1, hl1'⟩ : ∃ l, l = (lostK es k).1 := ⟨_, rfl⟩
      obtain ⟨l2, hl2'⟩ : ∃ l, l = (lostK es k).2 := ⟨_, rfl⟩
      rw [← hl1'] at hl1 hb1 e1
      rw [← hl2'] at hl2 hbb2 e2
      have HL1 := Lib.hid hl1'; have HL2 := Lib.hid hl2'
      subst e1; subst e2
      have hq3 : Below w2.heap.size w2 (w2.alloc (.cells #[.slice A1 l1.length c1, .slice A2 l2.length c2] 26)) := (by repeat (first | with_reducible exact Below.refl _ _ | with_reducible assumption | refine Below.drew ?_ | refine below_drewN ?_ | refine Below.alloc ?_ (by first | omega | (simp; done) | (simp; omega)) _ | refine below_setRow ?_ (by omega) _ | refine Below.setCell ?_ (by first | omega | (simp; done) | (simp; omega)) _))
      have RN : RowIs (w2.alloc (.cells #[.slice A1 l1.length c1, .slice A2 l2.length c2] 26)) w2.heap.size #[.slice A1 l1.length c1, .slice A2 l2.length c2] := RowIs.new _ _ _
      have hLL : LL (w2.alloc (.cells #[.slice A1 l1.length c1, .slice A2 l2.length c2] 26)) w2.heap.size [l1, l2] := ⟨RN.lt, fun j hj => by
        have : j = 0 ∨ j = 1 := by simp at hj; omega
        obtain ⟨t, ht⟩ := RN.row.heap
        rw [RN.has] at ht
        rcases this with rfl | rfl
        · exact ⟨_, by rw [cell_of_row _ _ _ _ t (0, 0) ht]; rfl, by rw [nthP_def]; exact hb1.step hq3⟩
        · exact ⟨_, by rw [cell_of_row _ _ _ _ t (0, 0) ht]; rfl, by rw [nthP_def]; exact hbb2.step hq3⟩⟩
      have CC := concatL_any w2.heap.size 2 [l1, l2] _ hLL (by simp) (by
        have e : ([l1, l2] : List BL).flatten = l1 ++ l2 := by simp
        rw [e, List.length_append]; omega)
      rw [show ([l1, l2] : List BL).length = 2 from rfl, show ([l1, l2] : List BL).flatten = l1 ++ l2 by simp] at CC
      have CC := Lib.hid CC
      replace hB := hB.trans (hq3.mono hB.size)
      have hz := hB.size
      clear hl1' hl2' own1 own2 hb1 hbb2 hLL RN hq3 hs CC1 hb2
      go_wp2_with fail
      refine CC.out.mono ?_
      rintro e w5 ⟨v5, rfl, own5, hb5⟩
      go_wp2_with fail
      go_ret
      exact ⟨_, rfl, by rw [← HL1.out, ← HL2.out]; exact own5.mono hz, hB.trans (hb5.mono hz)⟩
end Go.Proofs.Ytlfplikkifjnfaa
