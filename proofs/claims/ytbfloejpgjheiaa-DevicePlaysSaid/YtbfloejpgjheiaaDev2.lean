/- Layer 11: what asks a device, and lets it go down; a new one. -/
import Derived.Test.YtbfloejpgjheiaaDev
namespace Go.Proofs.Ytbfloejpgjheiaa
open Go.RowKit
theorem fuse_any (L : DL) (d : Dv) (n : Int) (w : World) (h : Dev w L d) (h1 : -9223372036854775808 ≤ n) (h2 : n ≤ 9223372036854775807) :
    Calls Try.prog 17 #[.pointer (some ⟨L.g, 0, none⟩), .int .i64 n] w fun e w' => e = .returned (.tuple #[]) ∧ DevTo L L (d.setFuse n) w w' := by
  obtain ⟨c0, c1, c2, c3, c4⟩ := h.row.cells5
  have f3 := h.row.fz 3
  clear c0 c1 c2 c4
  go_enter Try.func17, Try.ntmps17
  go_wp2_with fail
  go_end0
  exact ⟨rfl, h.setFuse n h1 h2⟩
theorem down_any (L : DL) (d : Dv) (w : World) (h : Dev w L d) :
    Calls Try.prog 18 #[.pointer (some ⟨L.g, 0, none⟩)] w fun e w' => e = .returned (.bool d.down) ∧ w = w' := by
  obtain ⟨c0, c1, c2, c3, c4⟩ := h.row.cells5
  clear c0 c1 c2 c3
  go_enter Try.func18, Try.ntmps18
  go_wp2_with fail
  go_ret
  exact ⟨rfl, rfl⟩
theorem OwnP.len {w : World} {vp : Value} {ps : List (Nat × List UInt8)} (h : OwnP w vp ps) : ∃ A c, vp = .slice A ps.length c := by
  rcases h.2 with ⟨hv, hn⟩ | ⟨g, cap, cur, hv, _⟩
  · exact ⟨none, 0, by rw [hv, hn]⟩
  · exact ⟨_, _, hv⟩
theorem pending_any (L : DL) (d : Dv) (w : World) (h : Dev w L d) :
    Calls Try.prog 19 #[.pointer (some ⟨L.g, 0, none⟩)] w fun e w' => e = .returned (.int .i64 d.pend.length) ∧ w = w' := by
  obtain ⟨c0, c1, c2, c3, c4⟩ := h.row.cells5
  obtain ⟨A, c, hv⟩ := h.pend.len
  rw [hv] at c2
  clear c0 c1 c3 c4 hv
  go_enter Try.func19, Try.ntmps19
  go_wp2_with fail
  go_ret
  exact ⟨rfl, rfl⟩
theorem len_any (L : DL) (d : Dv) (w : World) (h : Dev w L d) :
    Calls Try.prog 36 #[.pointer (some ⟨L.g, 0, none⟩)] w fun e w' => e = .returned (.int .i64 d.n) ∧ w = w' := by
  obtain ⟨c0, c1, c2, c3, c4⟩ := h.row.cells5
  clear c1 c2 c3 c4
  go_enter Try.func36, Try.ntmps36
  go_wp2_with fail
  go_ret
  exact ⟨rfl, rfl⟩
theorem Try.infoSec : (Try.prog.info? 59).map (fun i => (i.zero, i.size, i.bytes)) = some (some (.agg (Array.replicate 256 (.int .u8 0))), 256, 256) := by kernel_rfl
theorem make_sec (n : Nat) (hn : n ≤ 1000) (w : World) : (Instr.makeSlice 54 (.int .i64 n) (.int .i64 n)).run Try.prog w = .ok (.slice (some ⟨w.heap.size, 0, none⟩) n n) (w.alloc (.cells (u8s (List.replicate (256 * n) 0)) 59)) := by
  obtain ⟨i, hi1, hz, hs, hb⟩ := info_parts Try.infoSec
  rw [run_make w _ _ i _ Try.underlying54 hi1 hz .i64 .i64 n n (by omega) (by omega) (by rw [hb]; omega) (by omega), hs]
  have e : madeCells (Value.agg (Array.replicate 256 (.int .u8 0))).cells ((n : Int).toNat * 256) = u8s (List.replicate (256 * n) 0) := by
    apply Array.ext
    · simp [size_madeCells, u8s_size, Nat.mul_comm]
    · intro j h1 h2
      have hm : j % 256 < 256 := Nat.mod_lt _ (by omega)
      simp [madeCells, Value.cells, u8s_def, n8_def, hm]
  rw [e]
  simp
def NewRes (n : Nat) (w : World) (e : Ending) (w' : World) : Prop := ∃ L, e = .returned (.tuple #[.pointer (some ⟨L.g, 0, none⟩), .int .i64 0]) ∧ Dev w' L (Dv.new n) ∧ Below w.heap.size w w' ∧ ∀ k, L.has k → w.heap.size ≤ k
set_option maxRecDepth 100000 in
set_option maxHeartbeats 1600000 in
theorem new_dev (n : Nat) (h1 : 1 ≤ n) (h6 : n ≤ 600) (w : World) : Calls Try.prog 16 #[.int .i64 n] w (NewRes n w) := by
  have i1 : ¬ (n : Int) < 1 := by omega
  have i2 : ¬ (600 : Int) < n := by omega
  have hmk := make_sec n (by omega)
  have hZl : (List.replicate (256 * n) (0 : UInt8)).length = 256 * n := by simp
  have hnew : Dv.new n = ⟨n, List.replicate (256 * n) 0, List.replicate (256 * n) 0, [], -1, false⟩ := rfl
  obtain ⟨Z, hZ⟩ : ∃ Z, Z = List.replicate (256 * n) (0 : UInt8) := ⟨_, rfl⟩
  rw [← hZ] at hmk hZl hnew
  have HN := Lib.hid hnew
  have HZ := Lib.hid hZl
  have hok := Dv.new_ok n h1 h6
  have key : ∀ (a b g : Nat) (W : World), w.heap.size ≤ a → w.heap.size ≤ b → w.heap.size ≤ g → a ≠ b → a ≠ g → b ≠ g → RowIs W a (u8s Z) → RowIs W b (u8s Z) →
      RowIs W g #[.slice (some ⟨a, 0, none⟩) n n, .slice (some ⟨b, 0, none⟩) n n, .slice none 0 0, .int .i64 (-1), .bool false] → Below w.heap.size w W → NewRes n w (.returned (.tuple #[.pointer (some ⟨g, 0, none⟩), .int .i64 0])) W := by
    intro a b g W ha hb hg hab hag hbg ra rb rg hbel
    refine ⟨⟨g, a, n, [], b, n, [], .slice none 0 0⟩, rfl, ⟨?_, ?_, ?_, ?_, hok, Nat.le_refl _, Nat.le_refl _, hag, hbg, hab, fun k hk => by simp [Value.ownBlock] at hk⟩, hbel, ?_⟩
    · rw [HN.out]; exact rg
    · rw [HN.out]; simpa using ra
    · rw [HN.out]; simpa using rb
    · rw [HN.out]; exact World.ownsRow_nil _ _ _ _
    · rintro k (rfl | rfl | rfl | hk)
      · exact hg
      · exact ha
      · exact hb
      · simp [Value.ownBlock] at hk
  have KEY := Lib.hid key
  clear hZ hnew hZl hok key
  go_enter Try.func16, Try.ntmps16
  go_wp2_with fail
  go_region_with fail
  all_goals
    go_wp2_with fail
    refine bodyPost_ret (results_tmp2 rfl _ _ _) rfl ?_
  · exact KEY.out w.heap.size (w.heap.size + 1) (w.heap.size + 1 + 1) _ (by omega) (by omega) (by omega) (by omega) (by omega) (by omega) (((RowIs.new _ _ _).alloc _).alloc _).drew ((RowIs.new' (by simp)).alloc _).drew (RowIs.new' (by simp)).drew (by repeat (first | with_reducible exact Below.refl _ _ | with_reducible assumption | refine Below.drew ?_ | refine below_drewN ?_ | refine Below.alloc ?_ (by first | omega | (simp; done) | (simp; omega)) _ | refine below_setRow ?_ (by omega) _ | refine Below.setCell ?_ (by first | omega | (simp; done) | (simp; omega)) _))
  · exact KEY.out (w.heap.size + 1) w.heap.size (w.heap.size + 1 + 1) _ (by omega) (by omega) (by omega) (by omega) (by omega) (by omega) ((RowIs.new' (by simp)).alloc _).drew (((RowIs.new _ _ _).alloc _).alloc _).drew (RowIs.new' (by simp)).drew (by repeat (first | with_reducible exact Below.refl _ _ | with_reducible assumption | refine Below.drew ?_ | refine below_drewN ?_ | refine Below.alloc ?_ (by first | omega | (simp; done) | (simp; omega)) _ | refine below_setRow ?_ (by omega) _ | refine Below.setCell ?_ (by first | omega | (simp; done) | (simp; omega)) _))
def NewErr (w : World) (e : Ending) (w' : World) : Prop := e = .returned (.tuple #[.pointer none, .int .i64 1]) ∧ w = w'
theorem new_err (n : Int) (h : n < 1 ∨ 600 < n) (w : World) : Calls Try.prog 16 #[.int .i64 n] w (NewErr w) := by
  by_cases i1 : n < 1
  · go_enter Try.func16, Try.ntmps16
    go_wp2_with fail
    refine bodyPost_ret (results_tmp2 rfl _ _ _) rfl ?_
    exact ⟨rfl, rfl⟩
  · have i2 : 600 < n := by omega
    go_enter Try.func16, Try.ntmps16
    go_wp2_with fail
    refine bodyPost_ret (results_tmp2 rfl _ _ _) rfl ?_
    exact ⟨rfl, rfl⟩
end Go.Proofs.Ytbfloejpgjheiaa
