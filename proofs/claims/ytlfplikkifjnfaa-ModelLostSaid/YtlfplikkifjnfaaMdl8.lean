/- Layer 26: the first of some byte slices that is right; lists of those joined; pick. -/
import Derived.Test.YtlfplikkifjnfaaMdl7
import Derived.Lib.AppendZeros
namespace Go.Proofs.Ytlfplikkifjnfaa
open Go.RowKit
def EqW (w w' : World) : Prop := w = w'
/-- the first one that is right -/
def IdxVal (ls : BL) (u : List UInt8) (r : Int) : Prop := (∃ i : Nat, i < ls.length ∧ r = i ∧ nthL ls i = u ∧ ∀ j, j < i → nthL ls j ≠ u) ∨ (r = -1 ∧ ∀ j, j < ls.length → nthL ls j ≠ u)
def Idx2Res (ls : BL) (u : List UInt8) (w : World) (e : Ending) (w' : World) : Prop := (∃ r : Int, e = .returned (.int .i64 r) ∧ IdxVal ls u r) ∧ w = w'
set_option maxRecDepth 100000 in
set_option maxHeartbeats 1600000 in
theorem index2_any (va vx : Value) (ls : BL) (x : Nat) (u : List UInt8) (w : World) (ha : BsL w va ls) (hx : w.cell? ⟨x, 3, none⟩ = some vx) (hxb : Bs w vx u) (hl : ls.length ≤ 1000) :
    Calls Try.prog 25 #[va, isF x] w (Idx2Res ls u w) := by
  obtain ⟨A, c, rfl, -, -, hr⟩ := ha
  have HR := Lib.hid hr
  obtain ⟨m, hm⟩ : ∃ m, m = ls.length := ⟨_, rfl⟩
  have HM := Lib.hid hm
  have HX := Lib.hid hxb
  rw [← hm] at hl ⊢
  clear hm hr hxb
  go_enter Try.func25, Try.ntmps25
  go_wp2_with fail
  go_loopw [5, 8] (fun _ i wr => ∃ k : Nat, i = .int .i64 k ∧ k ≤ m ∧ EqW w wr ∧ ∀ j, j < k → nthL ls j ≠ u) (fun _ i _ => m - (intOf i).toNat)
  case atStart => exact ⟨0, rfl, by omega, rfl, fun j hj => absurd hj (by omega)⟩
  case round =>
    obtain ⟨k, rfl, hk, hw, hall⟩ := hrel
    obtain rfl : w = wr := hw
    have HA := Lib.hid hall
    clear hall
    by_cases hlt : k < m
    · have hlt' : k < ls.length := by rw [← HM.out]; exact hlt
      obtain ⟨g, o, rfl, hat⟩ := HR.out (by omega)
      obtain ⟨v, hcv, hbv⟩ := hat.2 k hlt'
      obtain ⟨Av, cv, ev⟩ := bytes_ne hbv
      have cc := is1_any hbv hx HX.out
      subst ev
      have hk0 : (0 : Int) ≤ (k : Int) := by omega
      have hk1 : (k : Int) < m := by omega
      by_cases he : nthL ls k = u
      · rw [decide_eq_true he] at cc
        have CC := Lib.hid cc
        have HE := Lib.hid he
        clear cc he hat hbv
        go_wp2_with fail
        refine CC.out.mono ?_
        rintro e w1 ⟨rfl, rfl⟩
        go_wp2_with fail
        go_ret
        exact ⟨⟨_, rfl, .inl ⟨k, hlt', rfl, HE.out, HA.out⟩⟩, rfl⟩
      · rw [decide_eq_false he] at cc
        have CC := Lib.hid cc
        have HE := Lib.hid he
        clear cc he hat hbv
        go_wp2_with fail
        refine CC.out.mono ?_
        rintro e w1 ⟨rfl, rfl⟩
        go_wp2_with fail
        exact ⟨⟨k + 1, by go_num, by omega, rfl, fun j hj => by
          rcases Nat.lt_or_ge j k with hjk | hjk
          · exact HA.out j hjk
          · obtain rfl : j = k := by omega
            exact HE.out⟩, by simp [intOf]; omega⟩
    · have ek : k = m := by omega
      subst ek
      go_wp2_with fail
      go_ret
      exact ⟨⟨_, rfl, .inr ⟨rfl, by rw [← HM.out]; exact HA.out⟩⟩, rfl⟩
theorem zeroSl (n : Nat) : (Builtin.zeroCells (Value.slice none 0 0).cells n).all isSl = true := by
  unfold Builtin.zeroCells
  rw [Array.all_eq_true]
  intro j hj
  simp [Value.cells, isSl, Nat.mod_one]
def GrowL (w : World) (e : Ending) (w' : World) : Prop := ∃ A c, e = .returned (.slice A 0 c) ∧ OwnL w' w.heap.size (.slice A 0 c) [] ∧ Below w.heap.size w w'
set_option maxRecDepth 100000 in
theorem growL_any (n : Nat) (hn : n ≤ 100000) (w : World) : Calls Try.prog 26 #[.slice none 0 0, .int .i64 n] w (GrowL w) := by
  obtain ⟨i, hi1, hz, hs1, hb1⟩ := info_parts slInfo
  by_cases h0 : n = 0
  · subst h0
    go_enter Try.func26, Try.ntmps26
    go_wp2_with fail
    go_ret
    exact ⟨none, 0, rfl, OwnL.nil _ _, Below.refl _ _⟩
  · have hn0 : (0 : Int) < n := by omega
    have hn1 : ¬ ((n : Int) < 0) := by omega
    have hrun := Lib.run_append_nil_zeros (P := Try.prog) w 26 3 26 34 i (.slice none 0 0) .i64 .i64 Try.underlying26 Try.underlying3 hi1 hz n (by omega) (by omega) (by omega) (by rw [hb1]; omega)
    have hg := grownCap_ge w n 0 34
    have hmx := grownCap_le_maxLen w n 0 34 (by simp only [maxLen]; omega)
    obtain ⟨cap, hcap⟩ : ∃ cap, cap = grownCap w n 0 34 := ⟨_, rfl⟩
    rw [← hcap] at hrun hg hmx
    obtain ⟨Zs, hZs⟩ : ∃ Zs, Zs = Builtin.zeroCells (Value.slice none 0 0).cells n ++ Builtin.zeroCells (Value.slice none 0 0).cells (cap - n) := ⟨_, rfl⟩
    have hZ1 : Zs.size = cap := by rw [hZs, Array.size_append, size_zeroCells, size_zeroCells]; simp [Value.cells]; omega
    have hZ2 : Zs.all isSl = true := by rw [hZs, Array.all_append, zeroSl, zeroSl]; rfl
    rw [← hZs] at hrun
    have fin : GrowL w (.returned (.slice (some ⟨w.heap.size, 0, none⟩) 0 cap)) (w.drew.alloc (.cells Zs 34)) :=
      ⟨_, _, rfl, ⟨[], ⟨by simp, .inr ⟨w.heap.size, 0, cap, Zs, rfl, Nat.le_refl _, heap_alloc_new w.drew _, by simp, hmx, by omega, by simp, hZ2⟩⟩, trivial⟩, ((Below.refl w.heap.size w).drew).alloc (Nat.le_refl _) _⟩
    have FIN := Lib.hid fin
    have RUN := Lib.hid hrun
    have HG := Lib.hid hg
    have hcc : ¬ ((cap : Int) < 0) := by omega
    clear hcap hZs hZ1 hZ2 fin hrun hmx
    go_enter Try.func26, Try.ntmps26
    go_wp2_with (at_builtin; refine Lib.wpList_append_run _ rfl (.tmp 20) (.tmp 21) _ _ rfl _ _ rfl rfl _ _ RUN.out ?_)
    go_ret
    exact FIN.out
@[irreducible] def nthP (ps : List BL) (i : Nat) : BL := ps.getD i []
theorem nthP_def (ps : List BL) (i : Nat) : nthP ps i = ps.getD i [] := by unfold nthP; rfl
def sumP (ps : List BL) (k : Nat) : Nat := ((ps.take k).flatten).length
theorem takeP_succ (ps : List BL) (k : Nat) (h : k < ps.length) : (ps.take (k + 1)).flatten = (ps.take k).flatten ++ nthP ps k := by
  have e : ps.take (k + 1) = ps.take k ++ [nthP ps k] := by rw [List.take_add_one, nthP_def]; simp [List.getD, h]
  rw [e, List.flatten_append]; simp
theorem sumP_succ (ps : List BL) (k : Nat) (h : k < ps.length) : sumP ps (k + 1) = sumP ps k + (nthP ps k).length := by
  unfold sumP; rw [takeP_succ ps k h, List.length_append]
theorem sumP_le (ps : List BL) (k : Nat) : sumP ps k ≤ ps.flatten.length := by
  unfold sumP
  have : ps.flatten = (ps.take k).flatten ++ (ps.drop k).flatten := by rw [← List.flatten_append, List.take_append_drop]
  rw [this, List.length_append]; omega
def LL (w : World) (g : Nat) (ps : List BL) : Prop := g < w.heap.size ∧ ∀ i, i < ps.length → ∃ v, w.cell? ⟨g, i, none⟩ = some v ∧ BsL w v (nthP ps i)
theorem LL.step {w w' : World} {g : Nat} {ps : List BL} (h : LL w g ps) (hb : Below w.heap.size w w') : LL w' g ps :=
  ⟨Nat.lt_of_lt_of_le h.1 hb.size, fun i hi => by
    obtain ⟨v, h1, h2⟩ := h.2 i hi
    exact ⟨v, (hb.cell (p := ⟨g, i, none⟩) h.1).trans h1, h2.step hb⟩⟩
set_option maxRecDepth 100000 in
set_option maxHeartbeats 1600000 in
theorem concatL_any (g c : Nat) (ps : List BL) (w : World) (hr : LL w g ps) (hn : ps.length ≤ 1000) (hm : ps.flatten.length ≤ 100000) :
    Calls Try.prog 21 #[.slice (some ⟨g, 0, none⟩) ps.length c] w (LeftRes ps.flatten w) := by
  have HR := Lib.hid hr
  obtain ⟨n, hnn⟩ : ∃ n, n = ps.length := ⟨_, rfl⟩
  have HN := Lib.hid hnn
  rw [← hnn] at hn ⊢
  clear hr hnn
  go_enter Try.func21, Try.ntmps21
  go_wp2_with fail
  go_loopw [3, 11] (fun s i wr => ∃ k : Nat, k ≤ n ∧ i = .int .i64 k ∧ s = .int .i64 (sumP ps k) ∧ EqW w wr) (fun _ i _ => n - (intOf i).toNat)
  case atStart => exact ⟨0, by omega, rfl, rfl, rfl⟩
  case round =>
    obtain ⟨k, hk, rfl, rfl, hw⟩ := hrel
    obtain rfl : w = wr := hw
    have hsk := sumP_le ps k
    by_cases hlt : k < n
    · have hlt' : k < ps.length := by rw [← HN.out]; exact hlt
      obtain ⟨v, hcell, A, cc, rfl, -, -, -⟩ := HR.out.2 k hlt'
      have hss := sumP_succ ps k hlt'
      have hs2 := sumP_le ps (k + 1)
      have hk0 : (0 : Int) ≤ (k : Int) := by omega
      have hk1 : (k : Int) < n := by omega
      obtain ⟨m, hmm⟩ : ∃ m, m = (nthP ps k).length := ⟨_, rfl⟩
      rw [← hmm] at hcell hss
      have hadd : ((sumP ps k : Nat) : Int) + (m : Int) = (sumP ps (k + 1) : Nat) := by omega
      have hge : ¬ (((sumP ps (k + 1) : Nat) : Int) < 0) := by omega
      have hwr : IntKind.i64.wrap ((sumP ps k : Nat) + (m : Int)) = (sumP ps (k + 1) : Nat) := by rw [hadd, IntKind.wrap_i64]; omega
      go_wp2_with fail
      exact ⟨⟨k + 1, by omega, by go_num, by rw [← hmm, hadd], rfl⟩, by simp [intOf]; omega⟩
    · have e : k = n := by omega
      subst e
      have hN : sumP ps k ≤ 100000 := by omega
      obtain ⟨N, hNN⟩ : ∃ N, N = sumP ps k := ⟨_, rfl⟩
      rw [← hNN] at hN ⊢
      clear hNN hsk
      go_wp2_with fail
      refine (growL_any N hN _).mono ?_
      rintro e w1 ⟨A1, c1, rfl, hown, hb1⟩
      have hsz1 := hb1.size
      go_wp2_with fail
      go_loopw [6, 27] (fun v i wr => ∃ j : Nat, j ≤ k ∧ i = .int .i64 j ∧ OwnL wr w.heap.size v (ps.take j).flatten ∧ Below w.heap.size w wr) (fun _ i _ => k - (intOf i).toNat)
      case atStart => exact ⟨0, by omega, rfl, by simpa using hown, hb1⟩
      case round =>
        clear hown
        obtain ⟨j, hj, rfl, hown, hb⟩ := hrel
        have hsz := hb.size
        by_cases hlt : j < k
        · have hlt' : j < ps.length := by rw [← HN.out]; exact hlt
          obtain ⟨v, hcell, hbl⟩ := (HR.out.step hb).2 j hlt'
          have hss := sumP_succ ps j hlt'
          have hs2 := sumP_le ps (j + 1)
          have hcat := takeP_succ ps j hlt'
          have hpl : ((ps.take j).flatten).length = sumP ps j := rfl
          have hk0 : (0 : Int) ≤ (j : Int) := by omega
          have hk1 : (j : Int) < k := by omega
          obtain ⟨pre, hpre⟩ : ∃ pre, pre = (ps.take j).flatten := ⟨_, rfl⟩
          obtain ⟨it, hit⟩ : ∃ it, it = nthP ps j := ⟨_, rfl⟩
          rw [← hpre] at hown hcat hpl
          rw [← hit] at hbl hss hcat
          obtain ⟨A, cc, e, -, -, -⟩ := id hbl
          have HCAT := Lib.hid hcat; have HPL := Lib.hid hpl
          subst e
          clear hcat hpre hit hpl
          go_wp2_with (at_builtin; refine wpList_appendL rfl (.tmp 31) (.tmp 32) rfl (N := sumP ps j + it.length) rfl hown rfl hbl (by rw [HPL.out]) (by omega) hsz ?_; intro A' c' w' own2 gr2 ob2)
          obtain ⟨vs, hown1, -⟩ := hown
          exact ⟨⟨j + 1, by omega, by go_num, by rw [HCAT.out]; exact own2, hb.trans (hown1.below gr2 hsz)⟩, by simp [intOf]; omega⟩
        · have e : j = k := by omega
          subst e
          rw [show ps.take j = ps by rw [HN.out, List.take_length]] at hown
          go_wp2_with fail
          go_ret
          exact ⟨_, rfl, hown, hb⟩
end Go.Proofs.Ytlfplikkifjnfaa
