/- Layer 1: bytes joined. -/
import Derived.Test.YtopmdbmnlflpgaaDoorFacts
import Derived.Test.YtopmdbmnlflpgaaDoorApp
import Derived.Test.YtopmdbmnlflpgaaDoorBs
import Derived.Deep.LoopGhost
namespace Go.Proofs.YtopmdbmnlflpgaaDoor
open Go.RowKit
def GrowRes (w : World) (e : Ending) (w' : World) : Prop := ∃ A c, e = .returned (.slice A 0 c) ∧ Own8 5 w' w.heap.size (.slice A 0 c) [] ∧ Below w.heap.size w w'
set_option maxRecDepth 100000 in
set_option maxHeartbeats 400000 in
theorem grow_any (n : Nat) (hn : n ≤ 70368744177664) (w : World) : Calls Tryd.prog 92 #[.slice none 0 0, .int .i64 n] w (GrowRes w) := by
  obtain ⟨i, hi1, hz, hs1, hb1⟩ := info_parts Tryd.info8
  by_cases h0 : n = 0
  · subst h0
    go_enter Tryd.func92, Tryd.ntmps92
    go_wp2_with fail
    go_ret
    exact ⟨none, 0, rfl, Own8.nil _ _ _, Below.refl _ _⟩
  · have hn0 : (0 : Int) < n := by omega
    have hn1 : ¬ ((n : Int) < 0) := by omega
    go_enter Tryd.func92, Tryd.ntmps92
    go_wp2_with (at_builtin; (refine wpList_appendZeros Tryd.underlying27 Tryd.underlying3 Tryd.info8 rfl (.tmp 20) (.tmp 21) rfl n rfl rfl (by omega) hn ?_); intro cap Zs hcap hmax hZs)
    go_ret
    refine ⟨_, _, rfl, ⟨by simp [u8v_def], .inr ⟨w.heap.size, cap, Zs, rfl, Nat.le_refl _, heap_alloc_new w _, by simp, hmax, by omega, by simp [u8v_def]⟩⟩, ((Below.refl w.heap.size w).alloc (Nat.le_refl _) _).drew⟩
def sumLen (ls : List (List UInt8)) (k : Nat) : Nat := ((ls.take k).map List.length).sum
theorem sumLen_succ (ls : List (List UInt8)) (k : Nat) (h : k < ls.length) : sumLen ls (k + 1) = sumLen ls k + (nthL ls k).length := by
  unfold sumLen
  rw [nthL_def]
  have e : ls.take (k + 1) = ls.take k ++ [ls.getD k []] := by
    rw [List.take_add_one]
    simp [List.getD, h]
  rw [e]; simp
theorem sumLen_le (ls : List (List UInt8)) (k : Nat) : sumLen ls k ≤ sumLen ls ls.length := by
  unfold sumLen
  rw [List.take_length]
  have e : (ls.map List.length).sum = ((ls.take k).map List.length).sum + ((ls.drop k).map List.length).sum := by
    rw [← List.sum_append, ← List.map_append, List.take_append_drop]
  omega
theorem flat_length (ls : List (List UInt8)) (k : Nat) : ((ls.take k).flatten).length = sumLen ls k := by
  unfold sumLen; rw [List.length_flatten]
set_option maxRecDepth 100000 in
set_option maxHeartbeats 1600000 in
theorem concat_any (vl : Value) (ls : List (List UInt8)) (hm : sumLen ls ls.length ≤ 35184372088832) (w : World) (hr : BsL w vl ls) :
    Calls Tryd.prog 70 #[vl] w (OwnRes 5 w ls.flatten) := by
  obtain ⟨A, c, rfl, hc, hl, hr⟩ := hr
  have hr : 0 < ls.length → ∃ g o, A = some ⟨g, o, none⟩ ∧ RdL w g o ls := hr
  have HR := Lib.hid hr; clear hr
  go_enter Tryd.func70, Tryd.ntmps70
  go_wp2_with fail
  go_loopw [3, 11] (fun s i wr => ∃ k n : Nat, k ≤ ls.length ∧ i = .int .i64 k ∧ s = .int .i64 (sumLen ls k) ∧ wr = w.drewN n) (fun _ i _ => ls.length - (intOf i).toNat)
  case atStart => exact ⟨0, 0, by omega, rfl, rfl, rfl⟩
  case round =>
    obtain ⟨k, n, hk, rfl, rfl, rfl⟩ := hrel
    have hsk := sumLen_le ls k
    by_cases hlt : k < ls.length
    · obtain ⟨g, o, rfl, hrd0⟩ := HR.out (by omega)
      obtain ⟨v, hcell, A, cc, rfl, hle, -⟩ := hrd0.2 k hlt
      clear hrd0
      have hss := sumLen_succ ls k hlt
      have hs2 := sumLen_le ls (k + 1)
      have hk0 : (0 : Int) ≤ (k : Int) := by omega
      have hk1 : (k : Int) < ls.length := by omega
      obtain ⟨m, hmm⟩ : ∃ m, m = (nthL ls k).length := ⟨_, rfl⟩
      rw [← hmm] at hcell hss
      have hadd : ((sumLen ls k : Nat) : Int) + (m : Int) = (sumLen ls (k + 1) : Nat) := by omega
      have hge : ¬ (((sumLen ls (k + 1) : Nat) : Int) < 0) := by omega
      have hwr : IntKind.i64.wrap ((sumLen ls k : Nat) + (m : Int)) = (sumLen ls (k + 1) : Nat) := by rw [hadd, IntKind.wrap_i64]; omega
      go_wp2_with fail
      exact ⟨⟨k + 1, n, by omega, by go_num, by rw [← hmm, hadd], rfl⟩, by simp [intOf]; omega⟩
    · have e : k = ls.length := by omega
      subst e
      have hN : sumLen ls ls.length ≤ 70368744177664 := by omega
      obtain ⟨N, hNN⟩ : ∃ N, N = sumLen ls ls.length := ⟨_, rfl⟩
      rw [← hNN] at hN ⊢
      have HN := Lib.hid hNN
      clear hNN hsk hm
      have HR0 := HR
      have hbn : Below w.heap.size w (w.drewN n) := below_drewN (Below.refl _ _)
      go_wp2_with fail
      refine (grow_any N hN _).mono ?_
      rintro e w1 ⟨A1, c1, rfl, hown, hb1⟩
      have hb1 := hbn.trans hb1
      have hsz1 := hb1.size
      have hN' := HN.out
      go_wp2_with fail
      go_loopw [6, 27] (fun v i wr => ∃ k : Nat, k ≤ ls.length ∧ i = .int .i64 k ∧ Own8 5 wr w.heap.size v (ls.take k).flatten ∧ Below w.heap.size w wr) (fun _ i _ => ls.length - (intOf i).toNat)
      case atStart => exact ⟨0, by omega, rfl, by simpa using hown, hb1⟩
      case round =>
        obtain ⟨k, hk, rfl, hown, hb⟩ := hrel
        have hsz := hb.size
        by_cases hlt : k < ls.length
        · obtain ⟨g, o, rfl, hrd0⟩ := HR0.out (by omega)
          obtain ⟨v, hcell, A, cc, rfl, hle, -, hrd⟩ := (hrd0.step hb).2 k hlt
          clear hrd0
          have hss := sumLen_succ ls k hlt
          have hs2 := sumLen_le ls (k + 1)
          have hfl := flat_length ls k
          have hk0 : (0 : Int) ≤ (k : Int) := by omega
          have hk1 : (k : Int) < ls.length := by omega
          have hcat : (ls.take (k + 1)).flatten = (ls.take k).flatten ++ nthL ls k := by
            have e : ls.take (k + 1) = ls.take k ++ [ls.getD k []] := by rw [List.take_add_one]; simp [List.getD, hlt]
            rw [nthL_def, e, List.flatten_append]; simp only [List.flatten_cons, List.flatten_nil, List.append_nil]
          obtain ⟨pre, hpre⟩ : ∃ pre, pre = (ls.take k).flatten := ⟨_, rfl⟩
          rw [← hpre] at hown hfl hcat
          obtain ⟨it, hit⟩ : ∃ it, it = nthL ls k := ⟨_, rfl⟩
          rw [← hit] at hcell hle hrd hss hcat
          have hlen : pre.length + it.length ≤ 140737488355328 := by omega
          have HRD := Lib.hid hrd
          have HCAT := Lib.hid hcat
          clear hrd hcat hpre hit
          go_wp2_with (at_builtin; (refine wpList_append8s Tryd.underlying27 Tryd.info8 rfl (.tmp 31) (.tmp 32) rfl w.heap.size _ _ pre rfl hown A it.length cc it rfl rfl HRD.out hlen hsz ?_); intro A2 c2 w2 hown2 hg2)
          have e2 : (pre ++ it).length = sumLen ls k + it.length := by rw [List.length_append, hfl]
          rw [e2] at hown2
          exact ⟨⟨k + 1, by omega, by go_num, by rw [HCAT.out]; exact hown2, below_append hb hown hg2 (Nat.le_refl _) hsz⟩, by simp [intOf]; omega⟩
        · have e : k = ls.length := by omega
          subst e
          rw [List.take_length] at hown
          go_wp2_with fail
          go_ret
          exact OwnRes.mk hown hb
theorem join_any (vl : Value) (ls : List (List UInt8)) (hm : sumLen ls ls.length ≤ 35184372088832) (w : World) (hr : BsL w vl ls) :
    Calls Tryd.prog 74 #[vl] w (OwnRes 5 w ls.flatten) := by
  have h := concat_any vl ls hm w hr
  obtain ⟨fl, hfl⟩ : ∃ fl, fl = ls.flatten := ⟨_, rfl⟩
  rw [← hfl] at h ⊢
  have HC := Lib.hid h
  clear h hfl
  go_enter Tryd.func74, Tryd.ntmps74
  go_wp2_with fail
  refine HC.out.mono ?_
  rintro e w1 ⟨A1, c1, rfl, hown, hb1⟩
  go_wp2_with fail
  go_ret
  exact ⟨A1, c1, rfl, hown, hb1⟩
theorem sumLen_flat (ls : List (List UInt8)) : sumLen ls ls.length = ls.flatten.length := by rw [← flat_length, List.take_length]
theorem concat_bs (vl : Value) (ls : List (List UInt8)) (hm : ls.flatten.length ≤ 35184372088832) (w : World) (hr : BsL w vl ls) :
    Calls Tryd.prog 70 #[vl] w (BsRes w ls.flatten) :=
  (concat_any vl ls (by rw [sumLen_flat]; exact hm) w hr).mono fun _ _ h => h.bs (by omega)
theorem join_bs (vl : Value) (ls : List (List UInt8)) (hm : ls.flatten.length ≤ 35184372088832) (w : World) (hr : BsL w vl ls) :
    Calls Tryd.prog 74 #[vl] w (BsRes w ls.flatten) :=
  (join_any vl ls (by rw [sumLen_flat]; exact hm) w hr).mono fun _ _ h => h.bs (by omega)
end Go.Proofs.YtopmdbmnlflpgaaDoor
