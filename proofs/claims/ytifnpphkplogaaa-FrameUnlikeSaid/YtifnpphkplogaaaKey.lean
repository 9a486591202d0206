/- Layer 1: keys out of bytes, and back. -/
import Derived.Test.YtifnpphkplogaaaOct2
import Derived.Test.YtifnpphkplogaaaKeyT
import Derived.Deep.LoopGhost
namespace Go.Proofs.Ytifnpphkplogaaa
open Go.RowKit
/-- the end of a function with two results, the first an array or a struct in memory -/
theorem bodyPost_retRowTmp {P : Program} {fn : Func} {R : Ending → World → Prop} {a : Act} {w : World} (p q : Tmp) (ty : TypeId) (g n : Nat) (hres : fn.results = #[.cell p ty, .tmp q])
    (hp : a.tmps.getD p undef = .pointer (some ⟨g, 0, none⟩)) (hn : 0 < n) (hu : (match P.underlying ty with | some (.struct _) | some (.array _ _) => true | _ => false) = true)
    (hi : (P.info? ty).map (·.size) = some n) (hr : (rowOf w g).size = n) (hd : a.defers = []) (hR : R (.returned (.tuple #[.agg (rowOf w g), a.tmps.getD q undef])) w) : bodyPost P fn R .ret a w := by
  obtain ⟨t, ht⟩ := rowOf_some hr hn
  cases hdd : P.underlying ty with
  | none => simp [hdd] at hu
  | some d =>
    have hp' : a.tmps[p]?.getD undef = .pointer (some ⟨g, 0, none⟩) := by simpa using hp
    have hrun : (results fn a.tmps).run P w = .ok (.tuple #[.agg (rowOf w g), a.tmps.getD q undef]) w := by
      simp [results, hres, hp', asAddr, run_loadVar_row w g t ty _ (0, 0) d ht hdd (by rw [hdd] at hu; cases d <;> simp_all) (by rw [hi, hr])]
    exact bodyPost_ret hrun hd hR
def keyOf (l : List UInt8) : List UInt8 := if l.length = 32 then l else zeros 32
def keyErr (l : List UInt8) : Int := if l.length < 32 then 3 else if 32 < l.length then 2 else 0
theorem keyOf_length (l : List UInt8) : (keyOf l).length = 32 := by
  unfold keyOf; split
  · assumption
  · exact zeros_length 32
def KeyRes (l : List UInt8) (w : World) (e : Ending) (w' : World) : Prop := e = .returned (.tuple #[.agg (u8s (keyOf l)), .int .i64 (keyErr l)]) ∧ Below w.heap.size w w'
set_option maxHeartbeats 800000 in
theorem toKey_any (A : Option Addr) (c : Nat) (l : List UInt8) (hc : l.length ≤ c) (hm : l.length ≤ 140737488351232) (w : World) (hr : Rd8 w w.heap.size A l) :
    Calls Try.prog 79 #[.slice A l.length c] w (KeyRes l w) := by
  have HR := Lib.hid hr; clear hr
  by_cases h1 : l.length < 32
  · have h1' : (l.length : Int) < 32 := by omega
    have ek : keyOf l = zeros 32 := by unfold keyOf; rw [if_neg (by omega)]
    have ee : keyErr l = 3 := by unfold keyErr; rw [if_pos h1]
    unfold KeyRes
    rw [ek, ee]
    go_enter Try.func79, Try.ntmps79
    go_wp2_with fail
    refine bodyPost_retRowTmp 2 3 _ w.heap.size 32 rfl rfl (by omega) (by kernel_rfl) (by kernel_rfl) ?_ rfl ?_
    · go_simp
    · go_simp
      exact ((Below.refl w.heap.size w).alloc (Nat.le_refl _) _).alloc (by simp) _
  · by_cases h2 : 32 < l.length
    · have h2' : (32 : Int) < l.length := by omega
      have ek : keyOf l = zeros 32 := by unfold keyOf; rw [if_neg (by omega)]
      have ee : keyErr l = 2 := by unfold keyErr; rw [if_neg (by omega), if_pos h2]
      unfold KeyRes
      rw [ek, ee]
      go_enter Try.func79, Try.ntmps79
      go_wp2_with fail
      refine bodyPost_retRowTmp 2 3 _ w.heap.size 32 rfl rfl (by omega) (by kernel_rfl) (by kernel_rfl) ?_ rfl ?_
      · go_simp
      · go_simp
        exact ((Below.refl w.heap.size w).alloc (Nat.le_refl _) _).alloc (by simp) _
    · have h3 : l.length = 32 := by omega
      have ek : keyOf l = l := by unfold keyOf; rw [if_pos h3]
      have ee : keyErr l = 0 := by unfold keyErr; rw [if_neg (by omega), if_neg (by omega)]
      have es : spl (zeros 32) 0 l = l := by
        unfold spl
        rw [List.drop_eq_nil_of_le (by rw [zeros_length]; omega)]
        simp
      unfold KeyRes
      rw [ek, ee, h3]
      go_enter Try.func79, Try.ntmps79
      go_wp2_with (with_reducible refine copy_here ?_; (refine wpList_copy8 rfl (.tmp 15) (.tmp 16) _ _ rfl 5 Try.underlying25 (by kernel_rfl) _ _ _ _ _ _ _ rfl rfl (zeros 32) l ⟨by go_simp, by go_simp⟩ (by omega) w.heap.size (HR.out.below (((Below.refl w.heap.size w).alloc (Nat.le_refl _) _).alloc (by simp) _)) (by rw [zeros_length]; omega) ?_); rw [es])
      refine bodyPost_retRowTmp 2 3 _ w.heap.size 32 rfl rfl (by omega) (by kernel_rfl) (by kernel_rfl) ?_ rfl ?_
      · go_simp
      · go_simp
        exact ((Below.refl w.heap.size w).alloc (Nat.le_refl _) _).alloc (by simp) _
set_option maxHeartbeats 800000 in
theorem refToKey_any (A : Option Addr) (c : Nat) (l : List UInt8) (hc : l.length ≤ c) (hm : l.length ≤ 140737488351232) (w : World) (hr : Rd8 w w.heap.size A l) :
    Calls Try.prog 80 #[.slice A l.length c] w (KeyRes l w) := by
  have HR := Lib.hid hr; clear hr
  by_cases h1 : l.length < 32
  · have h1' : (l.length : Int) < 32 := by omega
    have ek : keyOf l = zeros 32 := by unfold keyOf; rw [if_neg (by omega)]
    have ee : keyErr l = 3 := by unfold keyErr; rw [if_pos h1]
    unfold KeyRes
    rw [ek, ee]
    go_enter Try.func80, Try.ntmps80
    go_wp2_with fail
    refine bodyPost_retRowTmp 2 3 _ w.heap.size 32 rfl rfl (by omega) (by kernel_rfl) (by kernel_rfl) ?_ rfl ?_
    · go_simp
    · go_simp
      exact ((Below.refl w.heap.size w).alloc (Nat.le_refl _) _).alloc (by simp) _
  · by_cases h2 : 32 < l.length
    · have h2' : (32 : Int) < l.length := by omega
      have ek : keyOf l = zeros 32 := by unfold keyOf; rw [if_neg (by omega)]
      have ee : keyErr l = 2 := by unfold keyErr; rw [if_neg (by omega), if_pos h2]
      unfold KeyRes
      rw [ek, ee]
      go_enter Try.func80, Try.ntmps80
      go_wp2_with fail
      refine bodyPost_retRowTmp 2 3 _ w.heap.size 32 rfl rfl (by omega) (by kernel_rfl) (by kernel_rfl) ?_ rfl ?_
      · go_simp
      · go_simp
        exact ((Below.refl w.heap.size w).alloc (Nat.le_refl _) _).alloc (by simp) _
    · have h3 : l.length = 32 := by omega
      have ek : keyOf l = l := by unfold keyOf; rw [if_pos h3]
      have ee : keyErr l = 0 := by unfold keyErr; rw [if_neg (by omega), if_neg (by omega)]
      unfold KeyRes
      rw [ek, ee, h3]
      obtain ⟨g, off, rfl, hg, hcell⟩ := HR.out (by omega)
      have HC := Lib.hid hcell
      clear hcell
      go_enter Try.func80, Try.ntmps80
      go_wp2_with fail
      go_loopw [5] (fun i wr => ∃ (j : Nat) (o : List UInt8), j ≤ 32 ∧ i = .int .i64 j ∧ o.length = 32 ∧ (∀ x, x < j → at8 o x = at8 l x) ∧ wr = (w.alloc (.cells (u8s (zeros 32)) 72)).alloc (.cells (u8s o) 72)) (fun i _ => 32 - (intOf i).toNat)
      case atStart => exact ⟨0, zeros 32, by omega, rfl, zeros_length _, fun x hx => by omega, rfl⟩
      case round =>
        obtain ⟨j, o, hj, rfl, hol, hox, rfl⟩ := hrel
        have HO := Lib.hid hox
        clear hox
        by_cases hlt : j < 32
        · have hj0 : (0 : Int) ≤ (j : Int) := by omega
          have hj1 : (j : Int) < 32 := by omega
          have hck := HC.out j (by omega)
          go_wp2_with fail
          refine ⟨⟨j + 1, o.set j (at8 l j), by omega, by go_num, by rw [List.length_set]; exact hol, fun y hy => ?_, ?_⟩, by simp [intOf]; omega⟩
          · rw [at8_set _ _ _ _ (by omega)]
            split
            · subst_vars; rfl
            · exact HO.out y (by omega)
          · first | rfl | rw [u8s_set]
        · have e : j = 32 := by omega
          subst e
          have eo : o = l := ext8' (by omega) fun y hy => HO.out y (by omega)
          subst eo
          go_wp2_with fail
          refine bodyPost_retRowTmp 2 3 _ w.heap.size 32 rfl rfl (by omega) (by kernel_rfl) (by kernel_rfl) ?_ rfl ?_
          · go_simp
          · go_simp
            exact ((Below.refl w.heap.size w).alloc (Nat.le_refl _) _).alloc (by simp) _
set_option maxHeartbeats 800000 in
theorem bytes_any (l : List UInt8) (hl : l.length = 32) (w : World) :
    Calls Try.prog 72 #[.agg (u8s l)] w (OwnRes 5 w l) := by
  go_enter Try.func72, Try.ntmps72
  go_wp2_with fail
  go_loopw [3, 4] (fun v i wr => ∃ j : Nat, j ≤ 32 ∧ i = .int .i64 j ∧ RowIs wr w.heap.size (u8s l) ∧ Own8 5 wr (w.heap.size + 1) v (l.take j) ∧ Below w.heap.size w wr) (fun _ i _ => 32 - (intOf i).toNat)
  case atStart => exact ⟨0, by omega, rfl, RowIs.new _ _ _, Own8.nil _ _ _, (Below.refl _ _).alloc (Nat.le_refl _) _⟩
  case round =>
    obtain ⟨j, hj, rfl, hrow, hown, hb⟩ := hrel
    have hsz : w.heap.size ≤ wr.heap.size := hb.size
    have hlt := hrow.lt
    by_cases hlt32 : j < 32
    · have hj0 : (0 : Int) ≤ (j : Int) := by omega
      have hj1 : (j : Int) < 32 := by omega
      have hck : wr.cell? ⟨w.heap.size, j, none⟩ = some (.int .u8 (n8 (at8 l j))) := by
        obtain ⟨t, ht⟩ := hrow.row.heap
        rw [hrow.has] at ht
        rw [cell_of_row _ _ j _ t (0, 0) ht]
        exact u8s_get l j (by omega)
      have ha := hrow.has
      have hr := hrow.row
      have HROW := Lib.hid hrow
      have HB := Lib.hid hb
      clear hrow hb
      go_wp2_with ((at_builtin; refine wpList_append8 Try.underlying25 Try.info8 (by rfl) (.tmp 9) (.tmp 13) (by rfl) (w.heap.size + 1) _ (l.take j) (by rfl) (hown.alloc _) wr.heap.size (at8 l j) (by rfl) (by go_simp) (by simp; omega) (by simp; omega) ?_; intro g2 cap w2 hown1 hg1 hat1 hlt1))
      refine ⟨⟨j + 1, by omega, by go_num, (HROW.out.alloc _).below (below_append (Below.refl _ _) (hown.alloc _) hg1 (Nat.le_refl _) (by simp; omega)) (by omega), ?_, below_append (HB.out.alloc (by omega) _) (hown.alloc _) hg1 (by omega) (by simp; omega)⟩, by simp [intOf]; omega⟩
      rw [take_succ8 _ _ (by omega)]
      have e : (l.take j).length = j := by simp; omega
      rw [e] at hown1
      exact hown1
    · go_wp2_with fail
      go_ret
      rw [List.take_of_length_le (by omega)] at hown
      exact OwnRes.mk (hown.more (by omega)) hb
end Go.Proofs.Ytifnpphkplogaaa
