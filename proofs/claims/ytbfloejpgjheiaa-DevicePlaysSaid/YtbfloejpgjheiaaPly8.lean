/- Layer 11, the law's own: whether a device and the document's are the same. -/
import Derived.Test.YtbfloejpgjheiaaPly7
namespace Go.Proofs.Ytbfloejpgjheiaa
open Go.RowKit
theorem rnew_err (n : Int) (h : n < 1 ∨ 600 < n) (w : World) : Calls Try.prog 21 #[.int .i64 n] w (NewErr w) := by
  by_cases i1 : n < 1
  · go_enter Try.func21, Try.ntmps21
    go_wp2_with fail
    refine bodyPost_ret (results_tmp2 rfl _ _ _) rfl ?_
    exact ⟨rfl, rfl⟩
  · have i2 : 600 < n := by omega
    go_enter Try.func21, Try.ntmps21
    go_wp2_with fail
    refine bodyPost_ret (results_tmp2 rfl _ _ _) rfl ?_
    exact ⟨rfl, rfl⟩
set_option maxRecDepth 100000 in
set_option maxHeartbeats 1600000 in
theorem dsame_any (L : DL) (r : Nat) (d : Dv) (vs vp : Value) (fl : Bool) (lf : Int) (w : World) (hd : Dev w L d) (hr : RD L w r d vs vp fl lf) (hpl : d.pend.length ≤ 1000) :
    Calls Try.prog 27 #[.pointer (some ⟨L.g, 0, none⟩), .pointer (some ⟨r, 0, none⟩)] w (AwakeRes w) := by
  obtain ⟨Ap, cp, rfl, -, -⟩ := id hr.pend
  obtain ⟨c0, c1, c2, c3, c4⟩ := hr.row.cells5
  have HD := Lib.hid hd
  have HR := Lib.hid hr
  have hn6 := hd.ok.n6
  obtain ⟨b, hb⟩ : ∃ b, d.down = b := ⟨_, rfl⟩
  rw [hb] at c4
  have HB := Lib.hid hb
  obtain ⟨N, hN⟩ : ∃ N, d.pend.length = N := ⟨_, rfl⟩
  rw [hN] at c1
  have HN := Lib.hid hN
  clear hd hr hb hN c0 c2 c3
  go_enter Try.func27, Try.ntmps27
  go_wp2_with fail
  refine (len_any L d w HD.out).mono ?_
  rintro e w1 ⟨rfl, rfl⟩
  go_wp2_with fail
  refine (pending_any L d w HD.out).mono ?_
  rintro e w1 ⟨rfl, rfl⟩
  rw [HN.out]
  go_wp2_with fail
  refine (down_any L d w HD.out).mono ?_
  rintro e w1 ⟨rfl, rfl⟩
  rw [HB.out]
  go_wp2_with fail
  refine (rlen_any L r d vs _ fl lf w HR.out).mono ?_
  rintro e w1 ⟨rfl, rfl⟩
  cases b <;>
  · go_wp2_with fail
    go_loopw [8] (fun i wr => ∃ k : Nat, k ≤ d.n + 2 ∧ i = .int .i64 ((k : Int) - 1) ∧ Below w.heap.size w wr) (fun i _ => (d.n + 1 - intOf i).toNat)
    case atStart => exact ⟨0, by omega, rfl, Below.refl _ _⟩
    case round =>
      obtain ⟨k, hk, rfl, hbel⟩ := hrel
      have hDw := HD.out.step hbel
      have hRw := HR.out.step hbel
      by_cases hlt : k < d.n + 2
      · have hlt' : (k : Int) - 1 ≤ d.n := by omega
        have hend : ∀ w', Below w.heap.size w w' → (∃ j : Nat, j ≤ d.n + 2 ∧ Value.int .i64 (k : Int) = .int .i64 ((j : Int) - 1) ∧ Below w.heap.size w w') ∧ (d.n + 1 - intOf (Value.int .i64 (k : Int))).toNat < (d.n + 1 - intOf (Value.int .i64 ((k : Int) - 1))).toNat := fun w' hb => ⟨⟨k + 1, by omega, by congr 1; omega, hb⟩, by simp [intOf]; omega⟩
        have HEND := Lib.hid hend
        clear hend
        go_wp2_with fail
        refine (read_any L d ((k : Int) - 1) wr hDw).mono ?_
        rintro e w1 ⟨q1, q2⟩
        by_cases hi : (k : Int) - 1 < 0 ∨ (d.n : Int) ≤ (k : Int) - 1
        · obtain ⟨rfl, rfl⟩ := q1 hi
          clear q2
          go_wp2_with fail
          refine (rread_any L r d vs _ fl lf _ hRw ((k : Int) - 1) hpl).mono ?_
          rintro e w2 ⟨rfl, q1', q2'⟩
          obtain rfl := q1' hi
          clear q2' q1' q1
          go_wp2_with fail
          refine (refSame_bs (Bs.nil _) (Bs.nil _)).mono ?_
          rintro e w3 ⟨rfl, hb3⟩
          rw [decide_eq_true (show ([] : List UInt8) = [] from rfl)]
          have hb4 := hbel.trans (hb3.mono hbel.size)
          clear hb3 hDw hRw hi
          go_wp2_with fail
          exact HEND.out _ hb4
        · obtain ⟨v, rfl, hv, hb1, -⟩ := q2 (by omega) (by omega)
          clear q1
          have hRw1 := hRw.step hb1
          go_wp2_with fail
          refine (rread_any L r d vs _ fl lf _ hRw1 ((k : Int) - 1) hpl).mono ?_
          rintro e w2 ⟨rfl, q1', q2'⟩
          obtain ⟨v', rfl, hv'⟩ := q2' (by omega) (by omega)
          clear q1' q2' q2
          go_wp2_with fail
          refine (refSame_bs hv hv'.bs).mono ?_
          rintro e w3 ⟨rfl, hb3⟩
          rw [decide_eq_true (show sect d.seen ((k : Int) - 1).toNat = sect d.seen ((k : Int) - 1).toNat from rfl)]
          have hb4 := (hbel.trans (hb1.mono hbel.size)).trans (hb3.mono (hbel.trans (hb1.mono hbel.size)).size)
          clear hb3 hDw hRw hi hRw1 hv hv' hb1
          go_wp2_with fail
          exact HEND.out _ hb4
      · have hlt' : ¬ (k : Int) - 1 ≤ d.n := by omega
        clear hDw hRw
        go_wp2_with fail
        go_ret
        exact ⟨rfl, hbel⟩
end Go.Proofs.Ytbfloejpgjheiaa
