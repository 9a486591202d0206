/- Lists of byte slices held against each other. -/
import Derived.Test.YtopmdbmnlflpgaaDoorOwnL
import Derived.Test.YtopmdbmnlflpgaaDoorOctBs
namespace Go.Proofs.YtopmdbmnlflpgaaDoor
open Go.RowKit
theorem bytes_ne {w : World} {v : Value} {l : List UInt8} (h : Bs w v l) : ∃ A c, v = .slice A l.length c := by obtain ⟨A, c, e, _⟩ := h; exact ⟨A, c, e⟩
def TwoC (a b : Addr) (u v : Value) (w : World) : Prop := w.cell? a = some u ∧ w.cell? b = some v
set_option maxRecDepth 100000 in
set_option maxHeartbeats 1600000 in
theorem lists_bs (va vb : Value) (a b : BL) (w : World) (ha : BsL w va a) (hb : BsL w vb b) : Calls Tryd.prog 40 #[va, vb] w (BoolRes w (decide (a = b))) := by
  obtain ⟨A, c, rfl, -, hm1, hra⟩ := ha
  obtain ⟨B, d, rfl, -, hm2, hrb⟩ := hb
  have HA := Lib.hid hra; have HB := Lib.hid hrb
  clear hra hrb
  obtain ⟨n, hn⟩ : ∃ n, n = a.length := ⟨_, rfl⟩
  obtain ⟨m, hm⟩ : ∃ m, m = b.length := ⟨_, rfl⟩
  have HN := Lib.hid hn; have HM := Lib.hid hm
  rw [← hn] at hm1 ⊢
  rw [← hm] at hm2 ⊢
  clear hn hm
  by_cases hnm : n = m
  · subst hnm
    go_enter Tryd.func40, Tryd.ntmps40
    go_wp2_with fail
    go_loopw [5] (fun i wr => ∃ k : Nat, i = .int .i64 k ∧ k ≤ n ∧ Below w.heap.size w wr ∧ ∀ j, j < k → nthL a j = nthL b j) (fun i _ => n - (intOf i).toNat)
    case atStart => exact ⟨0, rfl, by omega, Below.refl _ _, fun j hj => absurd hj (by omega)⟩
    case round =>
      obtain ⟨k, rfl, hk, hB, hall⟩ := hrel
      have HALL := Lib.hid hall
      clear hall
      by_cases hlt : k < n
      · obtain ⟨g, o, rfl, hat⟩ := HA.out (by rw [← HN.out]; omega)
        obtain ⟨g2, o2, rfl, hat2⟩ := HB.out (by rw [← HM.out]; omega)
        obtain ⟨u, hcu, hbu⟩ := (hat.step hB).2 k (by rw [← HN.out]; exact hlt)
        obtain ⟨v, hcv, hbv⟩ := (hat2.step hB).2 k (by rw [← HM.out]; exact hlt)
        have hk0 : (0 : Int) ≤ (k : Int) := by omega
        have hk1 : (k : Int) < n := by omega
        have hd1 : Below wr.heap.size wr wr.drew := (by repeat (first | with_reducible exact Below.refl _ _ | with_reducible assumption | refine Below.drew ?_ | refine below_drewN ?_ | refine Below.alloc ?_ (by first | omega | (simp; done) | (simp; omega)) _ | refine below_setRow ?_ (by omega) _ | refine Below.setCell ?_ (by first | omega | (simp; done) | (simp; omega)) _))
        replace hbu := hbu.step hd1
        replace hbv := hbv.step hd1
        replace hB := hB.trans (hd1.mono hB.size)
        obtain ⟨Au, cu, eu⟩ := bytes_ne hbu
        obtain ⟨Av, cv, evv⟩ := bytes_ne hbv
        have CC := Lib.hid (refSame_bs hbu hbv)
        obtain ⟨bb, hbb⟩ : ∃ bb, bb = decide (nthL a k = nthL b k) := ⟨_, rfl⟩
        rw [← hbb] at CC
        have HBB := Lib.hid hbb
        subst eu; subst evv
        have hgl := (hat.step hB).1
        have hgl2 := (hat2.step hB).1
        clear hat hat2 hbu hbv hbb
        go_wp2_with fail
        refine wp_region_lexS [] [3, 7] (TwoC ⟨g, o + k, none⟩ ⟨g2, o2 + k, none⟩ (.slice Au (nthL a k).length cu) (.slice Av (nthL b k).length cv)) (by kernel_rfl) (by decide +kernel) ⟨hcu, hcv⟩ (fun hS => ?_)
        clear hcu hcv hd1
        generalize wr.drew = wd at CC hB hgl hgl2 hS ⊢
        (go_wp2_with (first | (refine wpLexS_nil ?_) | (refine wpLexS_pure rfl (fun _ _ => ?_); go_simp; refine ⟨_, fun w9 hw9 => (by have s1 := hw9.1; have s2 := hw9.2; go_simp; rfl), ?_⟩) | (refine wpLexS_pure0 rfl (fun _ _ => ?_); go_simp; try go_bits) | (refine wpLexS_read rfl (fun _ _ => ?_); go_simp; try go_bits)))
        refine wpLexS_loud rfl (fun KL hKL => ?_)
        go_wp2_with fail
        refine CC.out.mono ?_
        rintro e w1 ⟨rfl, hb1⟩
        go_wp2_with fail
        replace hB := hB.trans (hb1.mono hB.size)
        refine hKL _ _ ⟨(hb1.cell hgl).trans hS.1, (hb1.cell hgl2).trans hS.2⟩ (fun _ => ?_)
        clear CC hS hb1
        cases bb with
        | false =>
          have hne : ¬ nthL a k = nthL b k := by have := HBB.out; simpa using this
          have HNE := Lib.hid hne
          clear hne
          (go_wp2_with (first | (refine wpLexS_nil ?_) | (refine wpLexS_pure rfl (fun _ _ => ?_); go_simp; refine ⟨_, fun w9 hw9 => (by have s1 := hw9.1; go_simp; rfl), ?_⟩) | (refine wpLexS_pure0 rfl (fun _ _ => ?_); go_simp; try go_bits) | (refine wpLexS_read rfl (fun _ _ => ?_); go_simp; try go_bits)))
          go_ret
          refine ⟨?_, hB⟩
          rw [decide_eq_false (fun e => HNE.out (by rw [e]))]; rfl
        | true =>
          have heq : nthL a k = nthL b k := by have := HBB.out; simpa using this
          have HEQ := Lib.hid heq
          clear heq
          (go_wp2_with (first | (refine wpLexS_nil ?_) | (refine wpLexS_pure rfl (fun _ _ => ?_); go_simp; refine ⟨_, fun w9 hw9 => (by have s1 := hw9.1; go_simp; rfl), ?_⟩) | (refine wpLexS_pure0 rfl (fun _ _ => ?_); go_simp; try go_bits) | (refine wpLexS_read rfl (fun _ _ => ?_); go_simp; try go_bits)))
          exact ⟨⟨k + 1, by go_num, by omega, hB, fun j hj => by
            rcases Nat.lt_or_ge j k with hjk | hjk
            · exact HALL.out j hjk
            · obtain rfl : j = k := by omega
              exact HEQ.out⟩, by simp [intOf]; omega⟩
      · have ek : k = n := by omega
        subst ek
        go_wp2_with fail
        go_ret
        refine ⟨?_, hB⟩
        have : a = b := by
          apply List.ext_getElem?
          intro j
          by_cases hj : j < k
          · have h := HALL.out j hj
            have h1 : j < a.length := by rw [← HN.out]; exact hj
            have h2 : j < b.length := by rw [← HM.out]; exact hj
            rw [nthL_def, nthL_def, List.getD_eq_getElem?_getD, List.getD_eq_getElem?_getD, List.getElem?_eq_getElem h1, List.getElem?_eq_getElem h2] at h
            rw [List.getElem?_eq_getElem h1, List.getElem?_eq_getElem h2]
            simpa using h
          · rw [List.getElem?_eq_none (by rw [← HN.out]; omega), List.getElem?_eq_none (by rw [← HM.out]; omega)]
        rw [decide_eq_true this]; rfl
  · have hne : ((n : Int) != m) = true := by rw [bne_iff_ne]; omega
    have HNM := Lib.hid hnm
    clear hnm
    go_enter Tryd.func40, Tryd.ntmps40
    go_wp2_with fail
    go_ret
    refine ⟨?_, Below.refl _ _⟩
    rw [decide_eq_false (fun e => HNM.out (by rw [HN.out, HM.out, e]))]; rfl
end Go.Proofs.YtopmdbmnlflpgaaDoor
