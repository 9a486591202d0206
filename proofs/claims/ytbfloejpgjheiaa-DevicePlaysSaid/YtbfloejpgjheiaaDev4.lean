/- Layer 11: a sector is read; all is made sure of. -/
import Derived.Test.YtbfloejpgjheiaaDev3
import Derived.Lib.SliceRun
namespace Go.Proofs.Ytbfloejpgjheiaa
open Go.RowKit
set_option maxRecDepth 100000 in
theorem clone_bs {w : World} {a : Addr} {n c : Nat} {l : List UInt8} (h : Bs w (.slice (some a) n c) l) : Calls Try.prog 30 #[.slice (some a) n c] w (OwnRes 5 w l) := by
  have hl := h.le
  have hb := h.step ((Below.refl w.heap.size w).alloc (Nat.le_refl _) (.cells #[] 5))
  have ho := Own8.empty (T := 5) (g := w.heap.size) w (base := w.heap.size) rfl (Nat.le_refl _)
  obtain ⟨N, hN⟩ : ∃ N, l.length = N := ⟨_, rfl⟩
  rw [hN] at hl
  have HN := Lib.hid hN
  clear hN h
  have hnil := fun (w : World) => Lib.run_eql_slice_nil (P := Try.prog) w 29 5 (some a) n c 0 0 Try.underlying29
  go_enter Try.func30, Try.ntmps30
  go_wp2_with (at_builtin; refine wpList_appendBs Try.underlying29 Try.info8 rfl (.tmp 5) (.tmp 6) rfl w.heap.size rfl ho rfl hb (List.nil_append _) HN.out (by omega) (by simp) ?_; intro A' c' w' own1 bel1)
  go_ret
  refine ⟨A', c', by rw [HN.out]; rfl, by rw [HN.out]; exact own1, ((Below.refl w.heap.size w).alloc (Nat.le_refl _) _).trans bel1⟩
def ReadRes (d : Dv) (i : Int) (w : World) (e : Ending) (w' : World) : Prop :=
  (i < 0 ∨ (d.n : Int) ≤ i → e = .returned (.tuple #[.slice none 0 0, .int .i64 60]) ∧ w' = w) ∧
  (0 ≤ i → i < d.n → ∃ v, e = .returned (.tuple #[v, .int .i64 0]) ∧ Bs w' v (sect d.seen i.toNat) ∧ Below w.heap.size w w' ∧ ∀ k, v.ownBlock = some k → w.heap.size ≤ k)
set_option maxRecDepth 100000 in
theorem read_any (L : DL) (d : Dv) (i : Int) (w : World) (h : Dev w L d) : Calls Try.prog 15 #[.pointer (some ⟨L.g, 0, none⟩), .int .i64 i] w (ReadRes d i w) := by
  obtain ⟨c0, c1, c2, c3, c4⟩ := h.row.cells5
  clear c1 c2 c3 c4
  by_cases hi : i < 0 ∨ (d.n : Int) ≤ i
  · have fin : ReadRes d i w (.returned (.tuple #[.slice none 0 0, .int .i64 60])) w := ⟨fun _ => ⟨rfl, rfl⟩, fun h1 h2 => by omega⟩
    by_cases hi0 : i < 0
    · go_enter Try.func15, Try.ntmps15
      go_wp2_with fail
      refine bodyPost_ret (results_tmp2 rfl _ _ _) rfl ?_
      exact fin
    · have hi1 : (d.n : Int) ≤ i := by omega
      go_enter Try.func15, Try.ntmps15
      go_wp2_with fail
      refine bodyPost_ret (results_tmp2 rfl _ _ _) rfl ?_
      exact fin
  · obtain ⟨n, rfl⟩ : ∃ n : Nat, i = n := ⟨i.toNat, by omega⟩
    have i0 : ¬ (n : Int) < 0 := by omega
    have i1 : ¬ (d.n : Int) ≤ n := by omega
    have hn : n < d.n := by omega
    have hsl := h.ok.seen
    have hbs : Bs w (.slice (some ⟨L.bs, n * 256, none⟩) 256 256) (sect d.seen n) := by
      have := Bs.part h.seen (n * 256) 256 256 (by rw [List.length_append, hsl]; omega) (Nat.le_refl _) (by omega)
      have e : ((d.seen ++ L.js).drop (n * 256)).take 256 = sect d.seen n := by
        rw [sect_def, Nat.mul_comm, List.drop_append_of_le_length (by rw [hsl]; omega), List.take_append_of_le_length (by rw [List.length_drop, hsl]; omega)]
      rwa [e] at this
    have hcl := clone_bs hbs
    have HC := Lib.hid hcl
    clear hcl hbs hsl
    have hle : (sect d.seen n).length = 256 := sect_length _ _ _ h.ok.seen hn
    have HLE := Lib.hid hle
    clear hle
    go_enter Try.func15, Try.ntmps15
    go_wp2_with fail
    refine HC.out.mono ?_
    rintro e w1 ⟨A1, c1, rfl, hown, hb1⟩
    go_wp2_with fail
    refine bodyPost_ret (results_tmp2 rfl _ _ _) rfl ⟨fun h => by omega, fun _ _ => ⟨_, rfl, ?_, hb1, fun k hk => ?_⟩⟩
    · rw [Int.toNat_natCast]; exact hown.bs (by rw [HLE.out]; omega)
    · rcases hown.2 with ⟨hv, _⟩ | ⟨g, cap, cur, hv, hg, _⟩
      · rw [hv] at hk; simp [Value.ownBlock] at hk
      · rw [hv] at hk
        simp [Value.ownBlock] at hk
        omega
def SyncRes (L : DL) (d : Dv) (w : World) (e : Ending) (w' : World) : Prop := e = .returned (.int .i64 d.errS) ∧ ∃ L', DevTo L L' d.sync w w'
set_option maxRecDepth 100000 in
set_option maxHeartbeats 800000 in
theorem sync_any (L : DL) (d : Dv) (w : World) (h : Dev w L d) : Calls Try.prog 10 #[.pointer (some ⟨L.g, 0, none⟩)] w (SyncRes L d w) := by
  by_cases hd : d.tick.down = true
  · have hD : d.sync = d.tick ∧ d.errS = 61 := by unfold Dv.sync Dv.errS; simp [hd]
    have HD := Lib.hid hD
    have HDN := Lib.hid hd
    clear hD hd
    go_enter Try.func10, Try.ntmps10
    go_wp2_with fail
    refine (done_any L d _ h).mono ?_
    rintro e w1 ⟨rfl, hd1⟩
    rw [HDN.out]
    go_wp2_with fail
    go_ret
    exact ⟨by rw [HD.out.2]; rfl, L, by rw [HD.out.1]; exact hd1⟩
  · have hD : d.sync = { d.tick with sure := d.seen, pend := [] } ∧ d.errS = 0 := by unfold Dv.sync Dv.errS; simp [hd]
    have HD := Lib.hid hD
    have hdf : d.tick.down = false := by simpa using hd
    have HDN := Lib.hid hdf
    clear hD hd hdf
    go_enter Try.func10, Try.ntmps10
    go_wp2_with fail
    refine (done_any L d _ h).mono ?_
    rintro e w1 ⟨rfl, hd1⟩
    rw [HDN.out]
    have D := hd1.dev
    have c0 : w1.cell? ⟨L.g, 0, none⟩ = some (.slice (some ⟨L.bs, 0, none⟩) d.n L.cs) := D.row.cells5.1
    have c1 : w1.cell? ⟨L.g, 1, none⟩ = some (.slice (some ⟨L.bu, 0, none⟩) d.n L.cu) := D.row.cells5.2.1
    have rs : RowIs w1.drew L.bs (u8v (d.seen ++ L.js)).toArray := by rw [← u8s_toArray]; exact D.seen.drew
    have ru : RowIs w1.drew L.bu (u8v (d.sure ++ L.ju)).toArray := by rw [← u8s_toArray]; exact D.sure.drew
    have l1 : d.seen.length = 256 * d.n := h.ok.seen
    have l2 : d.sure.length = 256 * d.n := h.ok.sure
    have e : spl (u8v (d.sure ++ L.ju)) 0 (((u8v (d.seen ++ L.js)).drop 0).take (d.n * 256)) = u8v (d.seen ++ L.ju) := by
      unfold spl
      rw [List.drop_zero, List.take_zero, List.nil_append, ← u8v_append, ← u8v_append, ← u8v_append, List.take_append_of_le_length (by rw [u8v_length]; omega), List.take_of_length_le (by rw [u8v_length]; omega)]
      congr 1
      rw [u8v_length, Nat.zero_add, List.drop_append_of_le_length (by rw [u8v_length]; omega), List.drop_of_length_le (by rw [u8v_length]; omega), List.nil_append]
    have E := Lib.hid e
    have L1 := Lib.hid l1
    have L2 := Lib.hid l2
    have hcp := run_copyS (P := Try.prog) (w := w1.drew) (dT := 54) (sT := 54) (ty := 3) (dc := L.cu) (sc := L.cs) (s := 256) (n := d.n) (off := 0) (so := 0) Try.underlying54 (by kernel_rfl) ru rs (by rw [u8v_length, List.length_append, l2]; omega) (by rw [u8v_length, List.length_append, l1]; omega) (u8v_one _)
    rw [e, ← u8s_toArray] at hcp
    obtain ⟨W, hW⟩ : ∃ W, W = w1.setRow L.bu (u8s (d.seen ++ L.ju)) := ⟨_, rfl⟩
    rw [show w1.drew.setRow L.bu (u8s (d.seen ++ L.ju)) = W.drew from by rw [hW]; rfl] at hcp
    have d2 : DevTo L L { d.tick with sure := d.seen } w W := by
      rw [hW]
      refine ⟨rfl, ⟨D.row.set_ne (Ne.symm D.n2) _, D.seen.set_ne D.n3 _, D.sure.set _, D.pend.keep fun k hk => ?_, ⟨D.ok.n1, D.ok.n6, D.ok.seen, D.ok.seen, D.ok.pend, D.ok.lo, D.ok.hi⟩, D.hcs, D.hcu, D.n1, D.n2, D.n3, D.n4⟩, hd1.upx.trans (Upx.row w1 (.inr (.inr (.inl rfl))) _), fun _ h => .inl h⟩
      have := (D.n4 k hk).2.2
      simp only [World.setRow, Array.getElem?_modify]
      rw [if_neg (Ne.symm this)]
    have c2 : W.cell? ⟨L.g, 2, none⟩ = some L.vp := d2.dev.row.cells5.2.2.1
    have f2 := d2.dev.row.fz 2
    clear e l1 l2 hW
    go_wp2_with fail
    go_wp2_with (first | (refine wp_region_lex [] (by kernel_rfl) (by decide +kernel) ?_) | (refine wpLex_nil ?_) | (refine wpLex_pure rfl (fun _ _ => ?_); go_simp; try go_bits) | (refine wpLex_read rfl (fun _ _ => ?_); go_simp; try go_bits) | (refine wpLex_loud rfl (fun _ _ => ?_)))
    go_ret
    have D2 := d2.dev
    have e1 : SyncRes L d w (.returned (.int .i64 0)) (W.setCell ⟨L.g, 2, none⟩ (.slice none 0 0)) := by
      refine ⟨by rw [HD.out.2], { L with vp := .slice none 0 0 }, ?_⟩
      rw [HD.out.1]
      refine ⟨rfl, ⟨?_, D2.seen.put_ne D2.n1 _, D2.sure.put_ne D2.n2 _, World.ownsRow_nil _ _ _ _, ⟨D2.ok.n1, D2.ok.n6, D2.ok.seen, D2.ok.sure, fun p hp => by simp at hp, D2.ok.lo, D2.ok.hi⟩, D2.hcs, D2.hcu, D2.n1, D2.n2, D2.n3, fun k hk => by simp [Value.ownBlock] at hk⟩, d2.upx.trans (Upx.put W (.inl rfl) 2 _), ?_⟩
      · have := D2.row.put 2 (.slice none 0 0)
        simpa using this
      · rintro k (hk | hk | hk | hk)
        · exact .inl (.inl hk)
        · exact .inl (.inr (.inl hk))
        · exact .inl (.inr (.inr (.inl hk)))
        · simp [Value.ownBlock] at hk
    obtain ⟨e2, L', e3⟩ := e1
    exact ⟨e2, L', e3.then (Below.refl _ _).drew⟩
end Go.Proofs.Ytbfloejpgjheiaa
