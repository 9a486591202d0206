/- Layer 11: the device crashes. -/
import Derived.Test.YtbfloejpgjheiaaDev4
namespace Go.Proofs.Ytbfloejpgjheiaa
open Go.RowKit
attribute [local go_sem ↓] xbuildW xloadW xstoreW xloadS xstoreS xbsW
attribute [local go_sem] buildW zeroW storeW loadW wcell_size_eq wcell_one z256_length bsW
/-- a slice of bools that is only read -/
def RdB (w : World) (B : Nat) (A : Option Addr) (ks : List Bool) : Prop := 0 < ks.length → ∃ g o, A = some ⟨g, o, none⟩ ∧ g < B ∧ ∀ j, j < ks.length → w.cell? ⟨g, o + j, none⟩ = some (.bool (ks.getD j false))
theorem RdB.step {w w' : World} {B : Nat} {A : Option Addr} {ks : List Bool} (h : RdB w B A ks) (hb : Below B w w') : RdB w' B A ks := fun h0 => by
  obtain ⟨g, o, rfl, hg, hc⟩ := h h0
  exact ⟨g, o, rfl, hg, fun j hj => by rw [hb.cell (show g < B from hg)]; exact hc j hj⟩
theorem RdB.nil (w : World) (B : Nat) (A : Option Addr) : RdB w B A [] := fun h => by simp at h
theorem OwnP.row {w : World} {A : Option Addr} {n c : Nat} {ps : List (Nat × List UInt8)} (h : OwnP w (.slice A n c) ps) (h0 : 0 < ps.length) : ∃ g junk, A = some ⟨g, 0, none⟩ ∧ RowIs w g (pcells ps ++ junk).toArray := by
  obtain ⟨hl, h2⟩ := h
  rcases h2 with ⟨_, hn⟩ | ⟨g, cap, cur, hv, hg, hh, hc, _, hcs, ht⟩
  · omega
  · injection hv with e1 e2 e3
    refine ⟨g, cur.toList.drop (ps.length * 257), e1, ⟨⟨_, _, hh⟩, ?_⟩⟩
    rw [← ht, List.take_append_drop]
    unfold rowOf
    rw [hh]
    simp
theorem pcells_get : ∀ (ps : List (Nat × List UInt8)) (junk : List Value) (k : Nat), (∀ p ∈ ps, p.2.length = 256) → k < ps.length → ((pcells ps ++ junk).drop (k * 257)).take 257 = (wcell (ps.getD k (0, [])).1 (ps.getD k (0, [])).2).toList
  | [], _, _, _, h => by simp at h
  | p :: ps, junk, 0, hp, _ => by
    have h1 := hp p (by simp)
    have e : pcells (p :: ps) ++ junk = pcell p ++ (pcells ps ++ junk) := by simp [pcells]
    have hl : (pcell p).length = 257 := by simp [pcell, u8v_length, h1]
    rw [e, Nat.zero_mul, List.drop_zero, List.take_append_of_le_length (by omega), List.take_of_length_le (by omega), wcell_def]
    simp [pcell]
  | p :: ps, junk, k + 1, hp, h => by
    have h1 := hp p (by simp)
    have e : pcells (p :: ps) ++ junk = pcell p ++ (pcells ps ++ junk) := by simp [pcells]
    have hl : (pcell p).length = 257 := by simp [pcell, u8v_length, h1]
    rw [e, show (k + 1) * 257 = 257 + k * 257 by omega, ← List.drop_drop, List.drop_append_of_le_length (by omega), List.drop_of_length_le (l := pcell p) (by omega), List.nil_append, pcells_get ps junk k (fun q hq => hp q (by simp [hq])) (by simpa using h)]
    simp
theorem Dev.sureTo {w : World} {L : DL} {d : Dv} (h : Dev w L d) (s : List UInt8) (hs : s.length = 256 * d.n) : DevTo L L { d with sure := s } w (w.setRow L.bu (u8s (s ++ L.ju))) :=
  ⟨rfl, ⟨h.row.set_ne (Ne.symm h.n2) _, h.seen.set_ne h.n3 _, h.sure.set _, h.pend.keep fun k hk => by
    have := (h.n4 k hk).2.2
    simp only [World.setRow, Array.getElem?_modify]
    rw [if_neg (Ne.symm this)], ⟨h.ok.n1, h.ok.n6, h.ok.seen, hs, h.ok.pend, h.ok.lo, h.ok.hi⟩, h.hcs, h.hcu, h.n1, h.n2, h.n3, h.n4⟩, Upx.row w (.inr (.inr (.inl rfl))) _, fun _ h => .inl h⟩
theorem Dev.seenTo {w : World} {L : DL} {d : Dv} (h : Dev w L d) (s : List UInt8) (hs : s.length = 256 * d.n) : DevTo L L { d with seen := s } w (w.setRow L.bs (u8s (s ++ L.js))) :=
  ⟨rfl, ⟨h.row.set_ne (Ne.symm h.n1) _, h.seen.set _, h.sure.set_ne (Ne.symm h.n3) _, h.pend.keep fun k hk => by
    have := (h.n4 k hk).2.1
    simp only [World.setRow, Array.getElem?_modify]
    rw [if_neg (Ne.symm this)], ⟨h.ok.n1, h.ok.n6, hs, h.ok.sure, h.ok.pend, h.ok.lo, h.ok.hi⟩, h.hcs, h.hcu, h.n1, h.n2, h.n3, h.n4⟩, Upx.row w (.inr (.inl rfl)) _, fun _ h => .inl h⟩
theorem Dev.noPend {w : World} {L : DL} {d : Dv} (h : Dev w L d) : DevTo L { L with vp := .slice none 0 0 } { d with pend := [] } w (w.setCell ⟨L.g, 2, none⟩ (.slice none 0 0)) := by
  refine ⟨rfl, ⟨?_, h.seen.put_ne h.n1 _, h.sure.put_ne h.n2 _, World.ownsRow_nil _ _ _ _, ⟨h.ok.n1, h.ok.n6, h.ok.seen, h.ok.sure, fun p hp => by simp at hp, h.ok.lo, h.ok.hi⟩, h.hcs, h.hcu, h.n1, h.n2, h.n3, fun k hk => by simp [Value.ownBlock] at hk⟩, Upx.put w (.inl rfl) 2 _, ?_⟩
  · have := h.row.put 2 (.slice none 0 0)
    simpa using this
  · rintro k (hk | hk | hk | hk)
    · exact .inl (.inl hk)
    · exact .inl (.inr (.inl hk))
    · exact .inl (.inr (.inr (.inl hk)))
    · simp [Value.ownBlock] at hk
/-- the pending writes' turn, k of them done -/
def atK (d : Dv) (ks : List Bool) (k : Nat) : Dv := { d with sure := Dv.keepK d.pend ks d.sure k }
theorem keepSkip (d : Dv) (ks : List Bool) (k : Nat) (h : ks.getD k false = false) : atK d ks (k + 1) = atK d ks k := by
  have : ¬ (ks.getD k false = true) := by rw [h]; decide
  unfold atK
  simp only [Dv.keepK]
  rw [if_neg this]
theorem keepDo (d : Dv) (ks : List Bool) (k : Nat) (h : ks.getD k false = true) : atK d ks (k + 1) = { d with sure := spl (Dv.keepK d.pend ks d.sure k) (256 * (d.pend.getD k (0, [])).1) (d.pend.getD k (0, [])).2 } := by
  unfold atK
  simp only [Dv.keepK, h, if_true]
def CrashRes (L : DL) (d : Dv) (ks : List Bool) (w : World) (e : Ending) (w' : World) : Prop := e = .returned (.tuple #[]) ∧ ∃ L', DevTo L L' (d.crash ks) w w'
set_option maxRecDepth 100000 in
set_option maxHeartbeats 1600000 in
theorem crash_any (L : DL) (d : Dv) (A : Option Addr) (c : Nat) (ks : List Bool) (w : World) (h : Dev w L d) (_hc : ks.length ≤ c) (hr : RdB w w.heap.size A ks) (hx : 0 < ks.length → ∀ g o, A = some ⟨g, o, none⟩ → ¬ L.has g) (hpl : d.pend.length ≤ 1000000) :
    Calls Try.prog 12 #[.pointer (some ⟨L.g, 0, none⟩), .slice A ks.length c] w (CrashRes L d ks w) := by
  have c2 : w.cell? ⟨L.g, 2, none⟩ = some L.vp := h.row.cells5.2.2.1
  obtain ⟨Ap, cp, hv⟩ := h.pend.len
  rw [hv] at c2
  have HV := Lib.hid hv
  clear hv
  obtain ⟨n, hn⟩ : ∃ n, d.pend.length = n := ⟨_, rfl⟩
  rw [hn] at c2 hpl
  have HN := Lib.hid hn
  clear hn
  obtain ⟨m, hm⟩ : ∃ m, ks.length = m := ⟨_, rfl⟩
  rw [hm]
  have HM := Lib.hid hm
  clear hm
  go_enter Try.func12, Try.ntmps12
  go_wp2_with fail
  go_loopw [11] (fun i wr => ∃ k : Nat, k ≤ n ∧ i = .int .i64 k ∧ DevTo L L (atK d ks k) w wr) (fun i _ => n - (intOf i).toNat)
  case atStart => exact ⟨0, by omega, rfl, by rw [show atK d ks 0 = d from rfl]; exact DevTo.mk1 h (Upx.refl _ _)⟩
  case round =>
    clear c2
    obtain ⟨k, hk, rfl, hd⟩ := hrel
    by_cases hlt : k < n
    · have hlt' : (k : Int) < n := by omega
      have hOK := h.ok
      obtain ⟨g, junk, rfl, hrow⟩ := OwnP.row (A := Ap) (n := d.pend.length) (c := cp) (by rw [← HV.out]; exact hd.dev.pend) (show 0 < d.pend.length by rw [HN.out]; omega)
      obtain ⟨hpi, hpF⟩ := Dv.pend_at hOK k (by rw [HN.out]; omega)
      have hget := pcells_get d.pend junk k (fun p hp => (hOK.pend p hp).2) (by rw [HN.out]; omega)
      obtain ⟨i, hi⟩ : ∃ i, i = (d.pend.getD k (0, [])).1 := ⟨_, rfl⟩
      obtain ⟨F, hF⟩ : ∃ F, F = (d.pend.getD k (0, [])).2 := ⟨_, rfl⟩
      rw [← hi] at hpi
      rw [← hF] at hpF
      rw [← hi, ← hF] at hget
      have hld : (loadAgg 61 (.pointer (some ⟨g, k * 257, none⟩))).run Try.prog wr = .ok (.value (.agg (wcell i F))) wr := by
        have hpl' : (pcells d.pend).length = d.pend.length * 257 := hd.dev.pend.1
        have := run_loadAgg_mid (P := Try.prog) (o := k * 257) (n := 257) (ty := 61) Try.underlying61 rfl (by kernel_rfl) hrow (by rw [List.length_append, hpl', HN.out]; omega)
        rw [hget] at this
        simpa using this
      have HI := Lib.hid hi
      have HF := Lib.hid hF
      have hws : (wcell (i : Int) F).size = 257 := by rw [wcell_size, hpF]
      clear hi hF hget hrow
      have hbK : Below wr.heap.size wr (wr.alloc (.cells (wcell i F) 61)) := (by repeat (first | with_reducible exact Below.refl _ _ | with_reducible assumption | refine Below.drew ?_ | refine below_drewN ?_ | refine Below.alloc ?_ (by first | omega | (simp; done) | (simp; omega)) _ | refine below_setRow ?_ (by omega) _ | refine Below.setCell ?_ (by first | omega | (simp; done) | (simp; omega)) _))
      have hdA : DevTo L L (atK d ks k) w (wr.alloc (.cells (wcell i F) 61)) := hd.then hbK
      have hst0 : (storeAgg 61 (.pointer (some ⟨wr.heap.size, 0, none⟩)) (.agg (wcell i F))).run Try.prog (wr.alloc (.cells (wcell 0 z256) 61)) = .ok .skip (wr.alloc (.cells (wcell i F) 61)) := by
        have := storeW (wr.alloc (.cells (wcell 0 z256) 61)) wr.heap.size (wcell i F) (by rw [(RowIs.new _ _ _).has, wcell_size, z256_length]) hws (wcell_one _ _)
        rw [setRow_alloc, if_neg (Nat.lt_irrefl _), if_pos rfl] at this
        exact this
      by_cases hkm : k < m
      · have hkm' : (k : Int) < m := by omega
        obtain ⟨gk, ok, rfl, hgk, hck⟩ := hr (by rw [HM.out]; omega)
        have hbk := hck k (by rw [HM.out]; exact hkm)
        rw [← hdA.upx.cell (show gk < w.heap.size from hgk) (hx (by rw [HM.out]; omega) gk ok rfl)] at hbk
        obtain ⟨b, hb⟩ : ∃ b, b = ks.getD k false := ⟨_, rfl⟩
        rw [← hb] at hbk
        have HB := Lib.hid hb
        clear hck hb hr
        cases b with
        | false =>
          go_wp2_with fail
          refine ⟨⟨k + 1, by omega, by go_num, ?_⟩, by simp [intOf]; omega⟩
          rw [keepSkip d ks k HB.out.symm]
          exact hdA
        | true =>
          obtain ⟨W, hW⟩ : ∃ W, W = wr.alloc (.cells (wcell i F) 61) := ⟨_, rfl⟩
          obtain ⟨ow, how⟩ : ∃ ow, ow = wr.heap.size := ⟨_, rfl⟩
          rw [← hW] at hst0 hdA hbk
          have RW : RowIs W ow (Value.int .i64 i :: u8v F).toArray := by rw [hW, how, ← wcell_def]; exact RowIs.new _ _ _
          have c1 : W.cell? ⟨L.g, 1, none⟩ = some (.slice (some ⟨L.bu, 0, none⟩) d.n L.cu) := hdA.dev.row.cells5.2.1
          have cw : W.cell? ⟨ow, 0, none⟩ = some (.int .i64 i) := by
            obtain ⟨t, ht⟩ := RW.row.heap
            rw [RW.has] at ht
            rw [cell_of_row W ow 0 _ t (0, 0) ht]; simp
          have hl : (loadAgg 59 (.pointer (some ⟨ow, 1, none⟩))).run Try.prog W.drew = .ok (.value (.agg (u8s F))) W.drew := by
            have := run_loadAgg_mid (P := Try.prog) (o := 1) (n := 256) (ty := 59) Try.underlying59 rfl (by kernel_rfl) RW.drew (by simp only [List.length_cons, u8v_length, hpF]; omega)
            rw [this]
            simp only [List.drop_succ_cons, List.drop_zero]
            rw [List.take_of_length_le (by rw [u8v_length]; omega), ← u8s_toArray]
          obtain ⟨S0, hS0⟩ : ∃ S, S = Dv.keepK d.pend ks d.sure k := ⟨_, rfl⟩
          have hsl : S0.length = 256 * d.n := by rw [hS0]; exact Dv.keepK_length hOK ks k (by rw [HN.out]; omega)
          obtain ⟨S1, hS1⟩ : ∃ S, S = spl (S0 ++ L.ju) (i * 256) F := ⟨_, rfl⟩
          have hst : (storeAgg 59 (.pointer (some ⟨L.bu, i * 256, none⟩)) (.agg (u8s F))).run Try.prog W.drew = .ok .skip (W.drew.setRow L.bu (u8s S1)) := by
            have r0 : RowIs W.drew L.bu (u8v (S0 ++ L.ju)).toArray := by rw [← u8s_toArray, hS0]; exact hdA.dev.sure.drew
            have := run_storeAgg_mid (P := Try.prog) (ty := 59) (o := i * 256) (n := 256) (vs := u8v F) (by kernel_rfl) r0 (by rw [u8v_length, hpF]) (by rw [u8v_length, List.length_append, hsl]; omega) (u8v_one F)
            rw [u8v_spl, ← hS1, ← u8s_toArray] at this
            exact this
          have fin : DevTo L L (atK d ks (k + 1)) w (W.setRow L.bu (u8s S1)) := by
            have e1 : atK d ks (k + 1) = { atK d ks k with sure := spl S0 (256 * i) F } := by
              rw [keepDo d ks k HB.out.symm, HI.out, HF.out, hS0]; rfl
            rw [e1, hS1, spl_app _ _ _ _ (by rw [hsl, hpF]; omega), Nat.mul_comm]
            exact hdA.trans (hdA.dev.sureTo _ (by rw [spl_length _ _ _ (by rw [hsl, hpF]; omega)]; exact hsl))
          have hnow : wr.heap.size = ow := how.symm
          have FIN := Lib.hid fin
          have HW := Lib.hid hW
          clear hS0 hS1 fin hW how hd hdA hbK
          rw [hnow] at hst0
          go_wp2_with fail
          go_wp2_with (first | (refine wp_region_lex [] (by kernel_rfl) (by decide +kernel) ?_) | (refine wpLex_nil ?_) | (refine wpLex_pure rfl (fun _ _ => ?_); go_simp; try go_bits) | (refine wpLex_read rfl (fun _ _ => ?_); go_simp; try go_bits) | (refine wpLex_loud rfl (fun _ _ => ?_)))
          refine ⟨⟨k + 1, by omega, by go_num, ?_⟩, by simp [intOf]; omega⟩
          have := (FIN.out).then (Below.refl _ _).drew
          exact this
      · have hkm' : ¬ (k : Int) < m := by omega
        go_wp2_with fail
        refine ⟨⟨k + 1, by omega, by go_num, ?_⟩, by simp [intOf]; omega⟩
        rw [keepSkip d ks k (by unfold List.getD; rw [List.getElem?_eq_none (by rw [HM.out]; omega)]; rfl)]
        exact hdA
    · have hlt' : ¬ (k : Int) < n := by omega
      obtain rfl : k = n := by omega
      obtain ⟨S, hS⟩ : ∃ S, S = Dv.keepK d.pend ks d.sure k := ⟨_, rfl⟩
      have hat : atK d ks k = { d with sure := S } := by rw [hS]; rfl
      have hcr : d.crash ks = { d with sure := S, seen := S, pend := [], fuse := -1, down := false } := by rw [hS, ← HN.out]; rfl
      rw [hat] at hd
      have HCR := Lib.hid hcr
      clear hS hat hcr
      have D := hd.dev
      have c0 : wr.cell? ⟨L.g, 0, none⟩ = some (.slice (some ⟨L.bs, 0, none⟩) d.n L.cs) := D.row.cells5.1
      have c1 : wr.cell? ⟨L.g, 1, none⟩ = some (.slice (some ⟨L.bu, 0, none⟩) d.n L.cu) := D.row.cells5.2.1
      have rs : RowIs wr.drew L.bs (u8v (d.seen ++ L.js)).toArray := by rw [← u8s_toArray]; exact D.seen.drew
      have ru : RowIs wr.drew L.bu (u8v (S ++ L.ju)).toArray := by rw [← u8s_toArray]; exact D.sure.drew
      have l1 : d.seen.length = 256 * d.n := D.ok.seen
      have l2 : S.length = 256 * d.n := D.ok.sure
      have e : spl (u8v (d.seen ++ L.js)) 0 (((u8v (S ++ L.ju)).drop 0).take (d.n * 256)) = u8v (S ++ L.js) := by
        unfold spl
        rw [List.drop_zero, List.take_zero, List.nil_append, ← u8v_append, ← u8v_append, ← u8v_append, List.take_append_of_le_length (by rw [u8v_length]; omega), List.take_of_length_le (by rw [u8v_length]; omega)]
        congr 1
        rw [u8v_length, Nat.zero_add, List.drop_append_of_le_length (by rw [u8v_length]; omega), List.drop_of_length_le (l := u8v d.seen) (by rw [u8v_length]; omega), List.nil_append]
      have hcp := run_copyS (P := Try.prog) (w := wr.drew) (dT := 54) (sT := 54) (ty := 3) (dc := L.cs) (sc := L.cu) (s := 256) (n := d.n) (off := 0) (so := 0) Try.underlying54 (by kernel_rfl) rs ru (by rw [u8v_length, List.length_append, l1]; omega) (by rw [u8v_length, List.length_append, l2]; omega) (u8v_one _)
      rw [e, ← u8s_toArray] at hcp
      obtain ⟨W, hW⟩ : ∃ W, W = wr.setRow L.bs (u8s (S ++ L.js)) := ⟨_, rfl⟩
      rw [show wr.drew.setRow L.bs (u8s (S ++ L.js)) = W.drew from by rw [hW]; rfl] at hcp
      have d2 : DevTo L L { d with sure := S, seen := S } w W := by
        rw [hW]
        exact hd.trans (D.seenTo S l2)
      have c2 : W.cell? ⟨L.g, 2, none⟩ = some L.vp := d2.dev.row.cells5.2.2.1
      have f2 := d2.dev.row.fz 2
      have c3 : W.cell? ⟨L.g, 3, none⟩ = some (.int .i64 d.fuse) := d2.dev.row.cells5.2.2.2.1
      have f3 := d2.dev.row.fz 3
      have c4 : W.cell? ⟨L.g, 4, none⟩ = some (.bool d.down) := d2.dev.row.cells5.2.2.2.2
      have f4 := d2.dev.row.fz 4
      clear e l1 l2 hW rs ru
      go_wp2_with fail
      go_wp2_with (first | (refine wp_region_lex [] (by kernel_rfl) (by decide +kernel) ?_) | (refine wpLex_nil ?_) | (refine wpLex_pure rfl (fun _ _ => ?_); go_simp; try go_bits) | (refine wpLex_read rfl (fun _ _ => ?_); go_simp; try go_bits) | (refine wpLex_loud rfl (fun _ _ => ?_)))
      go_end0
      refine ⟨rfl, { L with vp := .slice none 0 0 }, ?_⟩
      rw [HCR.out]
      have t1 := (d2.then (Below.refl _ _).drew).trans (d2.dev.step (Below.refl _ _).drew).noPend
      have t2 := t1.trans (t1.dev.setFuse (-1) (by omega) (by omega))
      have t3 := t2.trans (t2.dev.setDown false)
      exact t3
end Go.Proofs.Ytbfloejpgjheiaa
