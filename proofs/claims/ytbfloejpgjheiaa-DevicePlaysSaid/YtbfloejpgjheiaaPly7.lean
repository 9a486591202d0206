/- Layer 11, the document's device: a new one. -/
import Derived.Test.YtbfloejpgjheiaaPly6
namespace Go.Proofs.Ytbfloejpgjheiaa
open Go.RowKit
theorem rzero (w : World) : (buildK 68 #[]).run Try.prog w = .ok (.value (.agg #[.slice none 0 0, .slice none 0 0, .bool false, .int .i64 0, .bool false])) w := run_buildK (by kernel_rfl) w
theorem xbuildR' (ev : Operand → Value) (d : Option Tmp) (ps : Array (Nat × Operand)) (ty : TypeId) (p : String) (af : Array Edge) (g : Option (Nat × Bool)) :
    execOp ev ⟨d, .build 68 ps, ty, p, af, g⟩ = buildK 68 (ps.map fun x => (x.1, ev x.2)) := exec_buildK ev d _ ps ty p af g
attribute [local go_sem ↓] xbuildR'
attribute [local go_sem] rzero
theorem full_nil : full [] = z256 := by rw [full_def, z256_def, List.nil_append, List.length_nil]
structure NS (w0 w : World) (r k : Nat) (vs : Value) (us : List Value) : Prop where
  row : RowIs w r #[vs, .slice none 0 0, .bool false, .int .i64 0, .bool false]
  own : w.ownsRow (r + 1) 29 1 vs k us
  els : ∀ j, j < k → ∃ A c, us[j]? = some (.slice A 256 c) ∧ Bs w (.slice A 256 c) z256 ∧ ∀ b, (Value.slice A 256 c).ownBlock = some b → w0.heap.size ≤ b ∧ b < w.heap.size ∧ vs.ownBlock ≠ some b
  bel : Below w0.heap.size w0 w
theorem Bs.grownO {w w' : World} {v : Value} {l : List UInt8} {row : Option Nat} (h : Bs w v l) (hg : w.grownBy w' row) (hne : ∀ b, v.ownBlock = some b → ¬ some b = row) : Bs w' v l := by
  obtain ⟨A, c, rfl, h1, h2, hr⟩ := h
  refine ⟨A, c, rfl, h1, h2, fun h0 => ?_⟩
  obtain ⟨g, o, rfl, hg', hc⟩ := hr h0
  have hlt : g < w.heap.size := hg'
  refine ⟨g, o, rfl, Nat.lt_of_lt_of_le hlt hg.size, fun j hj => ?_⟩
  rw [World.cell?_of_block (w := w) (hg.block g hlt (hne g rfl))]
  exact hc j hj
def OneC (p : Addr) (u : Value) (w : World) : Prop := w.cell? p = some u
theorem sect_new (n j : Nat) (h : j < n) : sect (List.replicate (256 * n) (0 : UInt8)) j = z256 := by
  rw [sect_def, z256_def, List.drop_replicate, List.take_replicate]
  congr 1; omega
def RNewR (L : DL) (n : Nat) (w : World) (e : Ending) (w' : World) : Prop := ∃ r vs vp fl lf, e = .returned (.tuple #[.pointer (some ⟨r, 0, none⟩), .int .i64 0]) ∧ RD L w' r (Dv.new n) vs vp fl lf ∧ Below w.heap.size w w' ∧ w.heap.size ≤ r
set_option maxRecDepth 100000 in
set_option maxHeartbeats 1600000 in
theorem rnew_any (L : DL) (n : Nat) (h1 : 1 ≤ n) (h6 : n ≤ 600) (w : World) (hL : ∀ k, L.has k → k < w.heap.size) : Calls Try.prog 21 #[.int .i64 n] w (RNewR L n w) := by
  have i1 : ¬ (n : Int) < 1 := by omega
  have i2 : ¬ (600 : Int) < n := by omega
  obtain ⟨ii, hi1, hz, hs1, hb8⟩ := info_parts Try.infoSl
  have HI1 := Lib.hid hi1; have HZ := Lib.hid hz; have HS1 := Lib.hid hs1; have HB8 := Lib.hid hb8
  have HFULL : Hid (∀ w, Calls Try.prog 33 #[.slice none 0 0] w (OwnRes 5 w z256)) := Lib.hid fun w => by rw [← full_nil]; exact rfull_any _ [] w (Bs.nil _) (by simp)
  clear hi1 hz hs1 hb8
  go_enter Try.func21, Try.ntmps21
  go_wp2_with fail
  go_loopw [5] (fun i wr => ∃ (k : Nat) (vs : Value) (us : List Value), k ≤ n ∧ i = .int .i64 k ∧ NS w wr w.heap.size k vs us) (fun i _ => n - (intOf i).toNat)
  case atStart => exact ⟨0, .slice none 0 0, [], by omega, rfl, RowIs.new _ _ _, World.ownsRow_nil _ _ _ _, fun j hj => by omega, (by repeat (first | with_reducible exact Below.refl _ _ | with_reducible assumption | refine Below.drew ?_ | refine below_drewN ?_ | refine Below.alloc ?_ (by first | omega | (simp; done) | (simp; omega)) _ | refine below_setRow ?_ (by omega) _ | refine Below.setCell ?_ (by first | omega | (simp; done) | (simp; omega)) _))⟩
  case round =>
    obtain ⟨k, vs, us, hk, rfl, hS⟩ := hrel
    obtain ⟨A0, c0, rfl⟩ : ∃ A c, vs = .slice A k c := by
      rcases hS.own.2 with ⟨e, rfl⟩ | ⟨g, cap, cur, e, _⟩
      · exact ⟨none, 0, e⟩
      · exact ⟨_, _, e⟩
    have hc := hS.row.cells5.1
    by_cases hlt : k < n
    · have hk0 : (0 : Int) ≤ k := by omega
      have hk1 : (k : Int) < n := by omega
      have hrl := hS.row.lt
      go_wp2_with fail
      refine wp_region_lexT [] [4] (OneC ⟨w.heap.size, 0, none⟩ (.slice A0 k c0)) (by kernel_rfl) (by decide +kernel) hc (fun hSS => ?_)
      (go_wp2_with (first | (refine wpLexT_pure rfl (fun _ _ => ?_); go_simp; refine ⟨_, fun w9 hw9 => (by have s1 : w9.cell? ⟨w.heap.size, 0, none⟩ = some (.slice A0 k c0) := hw9; go_simp; rfl), ?_⟩) | (refine wpLexT_pure0 rfl (fun _ _ => ?_); go_simp; try go_bits) | (refine wpLexT_read rfl (fun _ _ => ?_); go_simp; try go_bits) | (refine wpLexT_loud rfl (fun KL hKL => ?_))))
      refine (HFULL.out _).mono ?_
      rintro e w3 ⟨A3, c3, rfl, hown3, hb3⟩
      rw [z256_length] at hown3 ⊢
      have hsd : wr.drew.heap.size = wr.heap.size := rfl
      have hb13 : Below wr.heap.size wr w3 := (Below.refl _ _).drew.trans hb3
      have hs3 := hb13.size
      go_wp2_with fail
      have hc3 : OneC ⟨w.heap.size, 0, none⟩ (.slice A0 k c0) w3 := (hb13.cell (p := ⟨w.heap.size, 0, none⟩) hrl).trans hc
      refine hKL _ _ hc3 (fun _ => ?_)
      refine wpLexT_loud rfl (fun KL hKL => ?_)
      go_wp2_with fail
      have hal : Below w3.heap.size w3 (w3.alloc (.cells #[.slice A3 256 c3] 29)) := (by repeat (first | with_reducible exact Below.refl _ _ | with_reducible assumption | refine Below.drew ?_ | refine below_drewN ?_ | refine Below.alloc ?_ (by first | omega | (simp; done) | (simp; omega)) _ | refine below_setRow ?_ (by omega) _ | refine Below.setCell ?_ (by first | omega | (simp; done) | (simp; omega)) _))
      have hc4 : OneC ⟨w.heap.size, 0, none⟩ (.slice A0 k c0) (w3.alloc (.cells #[.slice A3 256 c3] 29)) := (hal.cell (p := ⟨w.heap.size, 0, none⟩) (show w.heap.size < w3.heap.size by omega)).trans hc3
      refine hKL _ _ hc4 (fun _ => ?_)
      have own4 := ownsRow_step (ownsRow_step hS.own hb13) hal
      have hR4 := RowIs.new w3 #[.slice A3 256 c3] 29
      have hul : us.length = k := by have := hS.own.1; omega
      refine wpLexT_loud rfl (fun KL hKL => ?_)
      refine wpList_wanted (by rfl) (fun K1 hK1 => ?_)
      refine wp_append_lies _ (.tmp 23) (.tmp 25) 65 rfl (w.heap.size + 1) 29 ii _ 1 24 Try.underlying65 HI1.out HZ.out HS1.out HB8.out rfl (by omega) (.slice A0 k c0) k us rfl own4 ⟨w3.heap.size, 0, none⟩ 1 1 [.slice A3 256 c3] rfl rfl
        (fun j u hu => by
          obtain ⟨t, ht⟩ := hR4.row.heap
          rw [hR4.has] at ht
          rw [Addr.add_mid, Nat.zero_add, cell_of_row _ _ j _ t (0, 0) ht]
          simpa using hu) (fun u hu => by rw [List.mem_singleton.1 hu]; rfl) (by omega) (by simp only [maxLen]; omega) (by omega) (by simp; omega) _ rfl ?_
      intro g3 cap w5 hown5 hg5 hat5 hlt5
      refine hK1 _ _ ?_
      go_wp2_with fail
      have hrow0 : (Value.slice A0 k c0).ownBlock ≠ some w.heap.size := fun e => by have := (World.ownsRow.lt hS.own _ e).1; omega
      have R5 : RowIs w5 w.heap.size #[.slice A0 k c0, .slice none 0 0, .bool false, .int .i64 0, .bool false] := by
        have R4 := (hS.row.step hb13).step hal
        have e := hg5.block w.heap.size R4.lt (fun e => hrow0 e.symm)
        exact ⟨by unfold IsRow; rw [e]; exact R4.row, by unfold rowOf; rw [e]; exact R4.has⟩
      have hc5 : OneC ⟨w.heap.size, 0, none⟩ (.slice A0 k c0) w5 := R5.cells5.1
      have hz5 := R5.fz 0
      refine hKL _ _ hc5 (fun _ => ?_)
      (go_wp2_with (first | (refine wpLexT_pure rfl (fun _ _ => ?_); go_simp; refine ⟨_, fun w9 hw9 => (by have s1 : w9.cell? ⟨w.heap.size, 0, none⟩ = some (.slice A0 k c0) := hw9; go_simp; rfl), ?_⟩) | (refine wpLexT_pure0 rfl (fun _ _ => ?_); go_simp; try go_bits) | (refine wpLexT_read rfl (fun _ _ => ?_); go_simp; try go_bits)))
      have hcc : w5.cell? ⟨w.heap.size, 0, none⟩ = some (.slice A0 k c0) := hc5
      refine wpLexT_last (fun KL hKL => ?_)
      go_wp2_with fail
      have h8 : w3.ownsRow wr.drew.heap.size 5 1 (.slice A3 256 c3) z256.length (u8v z256) := hown3
      have hb5 : Below w.heap.size w w5 := (((hS.bel.trans (hb13.mono hS.bel.size))).trans (hal.mono (by omega))).grown hg5 (by simp; omega) (fun q hq => by have := (World.ownsRow.lt own4 q hq).1; omega)
      have hu6 : Upd w.heap.size w5 (w5.setCell ⟨w.heap.size, 0, none⟩ (.slice (some ⟨g3, 0, none⟩) (k + 1) cap)) := (Upd.refl _ w5).put 0 _
      have n8 : No8 w5 w.heap.size := no8_row R5 (by simp)
      have hg31 : w.heap.size + 1 ≤ g3 := (World.ownsRow.lt hown5 g3 rfl).1
      have hgd : ∀ q, q ≠ g3 → q ≠ w.heap.size → True := fun _ _ _ => trivial
      refine ⟨⟨k + 1, .slice (some ⟨g3, 0, none⟩) (k + 1) cap, us ++ [.slice A3 256 c3], by omega, by go_num, ?_, ?_, fun j hj => ?_, hb5.setCell (Nat.le_refl _) _⟩, by simp [intOf]; omega⟩
      · have := R5.put 0 (.slice (some ⟨g3, 0, none⟩) (k + 1) cap)
        simpa using this
      · obtain ⟨o1, o2⟩ := hown5
        refine ⟨o1, ?_⟩
        rcases o2 with o2 | ⟨q, cp, cur, hv, hq, hh, rest⟩
        · exact .inl o2
        · exact .inr ⟨q, cp, cur, hv, hq, by rw [Below.heap_setCell _ _ _ _ (by simp; omega)]; exact hh, rest⟩
      · by_cases hjk : j < k
        · obtain ⟨A', c', e1, e2, e3⟩ := hS.els j hjk
          refine ⟨A', c', by rw [List.getElem?_append_left (by omega)]; exact e1, ?_, fun b hb => ?_⟩
          · exact (((e2.step hb13).step hal).grownO hg5 (fun b hb e => (e3 b hb).2.2 e.symm)).upd hu6 n8
          · obtain ⟨q1, q2, q3⟩ := e3 b hb
            refine ⟨q1, by have := hg5.size; simp [World.setCell] at this ⊢; omega, fun e => ?_⟩
            have e' : g3 = b := by simpa [Value.ownBlock] using e
            rcases hat5 with h | h
            · exact q3 (by rw [h, e'])
            · simp at h; omega
        · obtain rfl : j = k := by omega
          have hbk : ∀ b, (Value.slice A3 256 c3).ownBlock = some b → wr.heap.size ≤ b ∧ b < w3.heap.size := fun b hb => World.ownsRow.lt h8 b hb
          have hvs : ∀ b, (Value.slice A0 j c0).ownBlock = some b → b < wr.heap.size := fun b hb => (World.ownsRow.lt hS.own b hb).2
          have hbs : Bs w3 (.slice A3 256 c3) z256 := hown3.bs (by rw [z256_length]; omega)
          refine ⟨A3, c3, by rw [List.getElem?_append_right (by omega), hul]; simp, ?_, fun b hb => ?_⟩
          · exact ((hbs.step hal).grownO hg5 (fun b hb e => by have := hvs b e.symm; have := hbk b hb; omega)).upd hu6 n8
          · obtain ⟨q1, q2⟩ := hbk b hb
            refine ⟨by have := hS.bel.size; omega, by have := hg5.size; simp [World.setCell] at this ⊢; omega, fun e => ?_⟩
            have e' : g3 = b := by simpa [Value.ownBlock] using e
            rcases hat5 with h | h
            · have := hvs g3 h; omega
            · simp at h; omega
    · have hk1 : ¬ (k : Int) < n := by omega
      obtain rfl : k = n := by omega
      go_wp2_with fail
      refine bodyPost_ret (results_tmp2 rfl _ _ _) rfl ?_
      obtain ⟨g, cap, cur, hv, hg, hh, hnc, _, hcs, ht⟩ : ∃ g cap cur, Value.slice A0 k c0 = .slice (some ⟨g, 0, none⟩) k cap ∧ w.heap.size + 1 ≤ g ∧ wr.heap[g]? = some (.cells cur 29 (0, 0)) ∧ k ≤ cap ∧ cap ≤ maxLen ∧ cur.size = cap * 1 ∧ cur.toList.take (k * 1) = us := by
        rcases hS.own.2 with ⟨_, e⟩ | h
        · omega
        · exact h
      have hcells := fun j u hu => World.ownsRow.cells hS.own (g := g) (by rw [hv]; rfl) j u hu
      refine ⟨w.heap.size, .slice A0 k c0, .slice none 0 0, false, 0, rfl, ⟨hS.row, .inr ⟨rfl, by show (-1 : Int) < 0; omega⟩, ?_, Pend.nil _ _ _, fun hk => by have := hL _ hk; omega, Dv.new_ok k h1 h6, fun j _ => rfl⟩, hS.bel, Nat.le_refl _⟩
      refine ⟨some ⟨g, 0, none⟩, cap, hv, hnc, fun _ => ⟨g, rfl, (Array.getElem?_eq_some_iff.1 hh).1, fun hk => by have := hL _ hk; omega, by omega, fun j hj => ?_⟩⟩
      have hj' : j < k := hj
      obtain ⟨A', c', e1, e2, e3⟩ := hS.els j hj'
      refine ⟨.slice A' 256 c', ?_, ?_⟩
      · have := hcells j _ e1
        rw [Addr.add_mid, Nat.zero_add] at this
        exact this
      · show Side wr L (.slice A' 256 c') (sect (List.replicate (256 * k) (0 : UInt8)) j)
        rw [sect_new k j hj']
        exact ⟨e2, fun _ g' o' n' c'' e hk => by
          have h1 := (e3 g' (by rw [e]; rfl)).1
          have h2 := hL g' hk
          omega⟩
end Go.Proofs.Ytbfloejpgjheiaa
