/- Layer 11, the document's device: a write. -/
import Derived.Test.YtbfloejpgjheiaaPly4
namespace Go.Proofs.Ytbfloejpgjheiaa
open Go.RowKit
theorem Try.infoP : (Try.prog.info? 70).map (fun i => (i.zero, i.size, i.bytes)) = some (some (.agg #[.int .i64 0, .slice none 0 0]), 2, 32) := by kernel_rfl
theorem run_append_none0 {P : Program} {w : World} {t ty e : TypeId} {i : TypeInfo} {z : Value} (ht : P.underlying t = some (.slice e)) (hi : P.info? e = some i) (hz : i.zero = some z) (b : Addr) (c : Nat) :
    (Builtin.append_ #[t, t] ty #[.slice (some b) 0 0, .slice none 0 c]).run P w = .ok (.slice (some b) 0 0) w := by
  simp [Builtin.append_, run_underlying ht, sizeOf, typeInfo, zeroValue, hi, hz, Builtin.lenOf, run_firstCells_none]
  simp [storeCells]
/-- the pending writes' cells -/
theorem Pend.list {L : DL} {w : World} {r : Nat} {vp : Value} {ps : List (Nat × List UInt8)} (h : Pend L w r vp ps) :
    ∃ (A : Option Addr) (c : Nat) (us : List Value), vp = .slice A ps.length c ∧ ps.length ≤ c ∧ us.length = ps.length * 2 ∧ (∀ u ∈ us, u.oneCell' = true) ∧
      (0 < ps.length → ∃ g, A = some ⟨g, 0, none⟩ ∧ g < w.heap.size ∧ ∀ j u, us[j]? = some u → w.cell? ⟨g, j, none⟩ = some u) ∧
      ∀ k, k < ps.length → ∃ B n' c', us[k * 2]? = some (.int .i64 (ps.getD k (0, [])).1) ∧ us[k * 2 + 1]? = some (.slice B n' c') ∧ Side w L (.slice B n' c') (ps.getD k (0, [])).2 := by
  obtain ⟨A, c, rfl, hc, h1⟩ := h
  have hex : ∀ k, ∃ v : Value × Value, k < ps.length → (∀ g, A = some ⟨g, 0, none⟩ → w.cell? ⟨g, k * 2, none⟩ = some v.1 ∧ w.cell? ⟨g, k * 2 + 1, none⟩ = some v.2) ∧ v.1 = .int .i64 (ps.getD k (0, [])).1 ∧ ∃ B n' c', v.2 = .slice B n' c' ∧ Side w L (.slice B n' c') (ps.getD k (0, [])).2 := fun k => by
    by_cases hk : k < ps.length
    · obtain ⟨g, e, _, _, _, hj⟩ := h1 (by omega)
      obtain ⟨v, h2, h3, h4⟩ := hj k hk
      obtain ⟨B, c', e', _⟩ := id h4.bs
      refine ⟨(.int .i64 (ps.getD k (0, [])).1, v), fun _ => ⟨fun g' e2 => ?_, rfl, B, _, c', e', by rw [← e']; exact h4⟩⟩
      rw [e] at e2
      injection e2 with e2
      injection e2 with e2
      subst e2
      exact ⟨h2, h3⟩
    · exact ⟨(.slice none 0 0, .slice none 0 0), fun h => absurd h hk⟩
  let f : Nat → Value × Value := fun k => Classical.choose (hex k)
  have hf := fun k hk => Classical.choose_spec (hex k) hk
  have get : ∀ (n k : Nat), k < n → ((List.range n).flatMap fun k => [(f k).1, (f k).2])[k * 2]? = some (f k).1 ∧ ((List.range n).flatMap fun k => [(f k).1, (f k).2])[k * 2 + 1]? = some (f k).2 := by
    intro n
    induction n with
    | zero => intro k hk; omega
    | succ n ih =>
      intro k hk
      have hlen : ((List.range n).flatMap fun k => [(f k).1, (f k).2]).length = n * 2 := by
        clear ih hk
        induction n with
        | zero => rfl
        | succ n ih => rw [List.range_succ, List.flatMap_append, List.length_append, ih]; simp; omega
      rw [List.range_succ, List.flatMap_append]
      by_cases e : k < n
      · rw [List.getElem?_append_left (by omega), List.getElem?_append_left (by omega)]
        exact ih k e
      · obtain rfl : k = n := by omega
        rw [List.getElem?_append_right (by omega), List.getElem?_append_right (by omega), hlen]
        simp
  have hlen : ∀ n, ((List.range n).flatMap fun k => [(f k).1, (f k).2]).length = n * 2 := fun n => by
    induction n with
    | zero => rfl
    | succ n ih => rw [List.range_succ, List.flatMap_append, List.length_append, ih]; simp; omega
  have odd : ∀ j, j < ps.length * 2 → ((List.range ps.length).flatMap fun k => [(f k).1, (f k).2])[j]? = some (if j % 2 = 0 then (f (j / 2)).1 else (f (j / 2)).2) := fun j hj => by
    have := get ps.length (j / 2) (by omega)
    by_cases e : j % 2 = 0
    · rw [if_pos e, show j = j / 2 * 2 by omega, this.1]
      congr 3; omega
    · rw [if_neg e, show j = j / 2 * 2 + 1 by omega, this.2]
      congr 3; omega
  refine ⟨A, c, (List.range ps.length).flatMap fun k => [(f k).1, (f k).2], rfl, hc, hlen _, fun u hu => ?_, fun h0 => ?_, fun k hk => ?_⟩
  · obtain ⟨k, hk, hu⟩ := List.mem_flatMap.1 hu
    obtain ⟨_, e1, B, n', c', e2, _⟩ := hf k (by simpa using hk)
    rcases List.mem_cons.1 hu with rfl | hu
    · show ((f k).1).oneCell' = true
      rw [show (f k).1 = _ from e1]; rfl
    · rw [List.mem_singleton.1 hu, show (f k).2 = _ from e2]; rfl
  · obtain ⟨g, e, hg, _, _, _⟩ := h1 h0
    refine ⟨g, e, hg, fun j u hu => ?_⟩
    have hj : j < ps.length * 2 := by
      rcases Nat.lt_or_ge j (ps.length * 2) with h | h
      · exact h
      · rw [List.getElem?_eq_none (by rw [hlen]; exact h)] at hu; cases hu
    rw [odd j hj] at hu
    obtain ⟨hc2, _⟩ := hf (j / 2) (by omega)
    have hh := hc2 g e
    injection hu with hu
    subst hu
    by_cases e2 : j % 2 = 0
    · rw [if_pos e2]
      exact (congrArg (fun x => w.cell? ⟨g, x, none⟩) (show j = j / 2 * 2 by omega)).trans hh.1
    · rw [if_neg e2]
      exact (congrArg (fun x => w.cell? ⟨g, x, none⟩) (show j = j / 2 * 2 + 1 by omega)).trans hh.2
  · obtain ⟨_, e1, B, n', c', e2, hs⟩ := hf k hk
    have := get ps.length k hk
    exact ⟨B, n', c', by rw [this.1]; exact congrArg some e1, by rw [this.2]; exact congrArg some e2, hs⟩
theorem xbuildP (ev : Operand → Value) (d : Option Tmp) (ps : Array (Nat × Operand)) (ty : TypeId) (p : String) (af : Array Edge) (g : Option (Nat × Bool)) :
    execOp ev ⟨d, .build 70 ps, ty, p, af, g⟩ = buildK 70 (ps.map fun x => (x.1, ev x.2)) := exec_buildK ev d _ ps ty p af g
theorem buildP (i : Int) (A : Option Addr) (n c : Nat) (w : World) : (buildK 70 #[(0, .int .i64 i), (1, .slice A n c)]).run Try.prog w = .ok (.value (.agg #[.int .i64 i, .slice A n c])) w :=
  run_buildK (by kernel_rfl) w
theorem xbsP (ev : Operand → Value) (d : Option Tmp) (ps : Array (Nat × Operand)) (ty : TypeId) (p : String) (af : Array Edge) (g : Option (Nat × Bool)) :
    execOp ev ⟨d, .buildSlice 66 1 ps, ty, p, af, g⟩ = bsliceK 66 1 (ps.map fun x => (x.1, ev x.2)) := exec_bsliceK ev d _ 1 ps ty p af g
theorem bsP (i : Int) (A : Option Addr) (n c : Nat) (w : World) : (bsliceK 66 1 #[(0, .agg #[.int .i64 i, .slice A n c])]).run Try.prog w = .ok (.value (.slice (some ⟨w.heap.size, 0, none⟩) 1 1)) (w.alloc (.cells #[.int .i64 i, .slice A n c] 70)) :=
  run_bsliceK1 (s := 2) Try.underlying66 (by kernel_rfl) (by omega) (by omega) _ rfl w
attribute [local go_sem ↓] xbuildP xbsP
attribute [local go_sem] buildP bsP
theorem ownsRow_step {w w' : World} {base size n : Nat} {e : TypeId} {v : Value} {xs : List Value} (h : w.ownsRow base e size v n xs) (hb : Below w.heap.size w w') : w'.ownsRow base e size v n xs := by
  obtain ⟨h1, h2⟩ := h
  refine ⟨h1, ?_⟩
  rcases h2 with h2 | ⟨g, cap, cur, hv, hg, hh, r⟩
  · exact .inl h2
  · exact .inr ⟨g, cap, cur, hv, hg, by rw [hb.block g (Array.getElem?_eq_some_iff.1 hh).1]; exact hh, r⟩
theorem cons_write {d : Dv} {i : Nat} {F : List UInt8} (hok : d.Ok) (hi : i < d.n) (hF : F.length = 256) (hc : ∀ j, j < d.n → sect d.seen j = lastP d.pend j (sect d.sure j)) (j : Nat) (hj : j < d.n) :
    sect (spl d.seen (256 * i) F) j = lastP (d.pend ++ [(i, F)]) j (sect d.sure j) := by
  rw [sect_spl _ _ _ _ d.n hok.seen hi hF, lastP_app]
  by_cases e : j = i
  · rw [if_pos e, if_pos e.symm]
  · rw [if_neg e, if_neg (Ne.symm e)]; exact hc j hj
set_option maxRecDepth 100000 in
set_option maxHeartbeats 1600000 in
theorem rwrite_goes (L : DL) (r : Nat) (d : Dv) (vs vp : Value) (fl : Bool) (lf : Int) (w : World) (h : RD L w r d vs vp fl lf) (hL : ∀ k, L.has k → k < w.heap.size) (i : Nat) (vb : Value) (b : List UInt8) (hb : Bs w vb b) (hi : i < d.n) (hbl : b.length ≤ 256) (hd : d.tick.down = false) (hpl : d.pend.length ≤ 1000) :
    Calls Try.prog 22 #[.pointer (some ⟨r, 0, none⟩), .int .i64 i, vb] w (TurnsR L r (d.write i b) w (.int .i64 (d.errW i b))) := by
  have hD : Dv.write d i b = { d.tick with seen := spl d.seen (256 * i) (full b), pend := d.pend ++ [(i, full b)] } ∧ d.errW i b = 0 := by
    have := Dv.write_done (d := d) (i := (i : Int)) (b := b) (by omega) (by omega) (by rw [hd]; simp)
    simpa using this
  have HD := Lib.hid hD
  have HDN := Lib.hid hd
  have HL := Lib.hid hL
  have hFl := full_length b hbl
  obtain ⟨F, hF⟩ : ∃ F, F = full b := ⟨_, rfl⟩
  have HBB := Lib.hid hb
  have hfull := fun (w : World) (h : Bs w vb b) => rfull_any vb b w h hbl
  rw [← hF] at hFl hfull
  have HFU := Lib.hid hfull
  have HF := Lib.hid hF
  obtain ⟨As, cs, rfl, -, -⟩ := id h.secs
  have c0 := h.row.cells5.1
  have i0 : ¬ (i : Int) < 0 := by omega
  have i1 : ¬ (d.n : Int) ≤ i := by omega
  obtain ⟨Ab, cb, rfl, -, -, -⟩ := id hb
  obtain ⟨m, hm⟩ : ∃ m, b.length = m := ⟨_, rfl⟩
  have HM := Lib.hid hm
  have i2 : ¬ (256 : Int) < m := by omega
  rw [hm] at HFU HBB ⊢
  clear hD hL hd hb hm hfull hF
  go_enter Try.func22, Try.ntmps22
  go_wp2_with fail
  refine (rdone_any L r d _ vp fl lf w h).mono ?_
  rintro e w1 ⟨rfl, lf1, h1, hu1⟩
  rw [HDN.out]
  clear c0
  have hb1 := HBB.out.upd hu1 h.no8
  obtain ⟨Ap, cp, us, rfl, hcp, hul, hone, hcell, hels⟩ := h1.pend.list
  have c1 := h1.row.cells5.2.1
  have hrl := h1.row.lt
  have hnt : d.tick.pend.length = d.pend.length := rfl
  rw [hnt] at c1 hcp hul hcell hels
  obtain ⟨n, hn⟩ : ∃ n, d.pend.length = n := ⟨_, rfl⟩
  rw [hn] at c1 hcp hul hcell hels hpl
  have HN := Lib.hid hn
  clear hn hnt
  obtain ⟨ii, hi1, hz, hs1, hb8⟩ := info_parts Try.infoP
  -- the pending ones, copied
  obtain ⟨A2, c2, w2, happ, hown, hbel⟩ : ∃ A2 c2 w2, (Builtin.append_ #[66, 66] 66 #[.slice (some ⟨w1.heap.size, 0, none⟩) 0 0, .slice Ap n cp]).run Try.prog (w1.alloc (.cells #[] 70)) = .ok (.slice A2 n c2) w2 ∧
      w2.ownsRow w1.heap.size 70 2 (.slice A2 n c2) n us ∧ Below w1.heap.size w1 w2 := by
    by_cases h0 : n = 0
    · subst h0
      obtain rfl : us = [] := List.eq_nil_of_length_eq_zero (by omega)
      have hmade : (w1.alloc (.cells #[] 70)).ownsRow w1.heap.size 70 2 (.slice (some ⟨w1.heap.size, 0, none⟩) 0 0) 0 [] := World.ownsRow_made w1 #[] 0 (Nat.le_refl _) (by simp) (by simp)
      cases Ap with
      | none => exact ⟨_, _, _, run_append_none0 Try.underlying66 hi1 hz _ _, hmade, (by repeat (first | with_reducible exact Below.refl _ _ | with_reducible assumption | refine Below.drew ?_ | refine below_drewN ?_ | refine Below.alloc ?_ (by first | omega | (simp; done) | (simp; omega)) _ | refine below_setRow ?_ (by omega) _ | refine Below.setCell ?_ (by first | omega | (simp; done) | (simp; omega)) _))⟩
      | some a => exact ⟨_, _, _, run_append_no Try.underlying66 hi1 hz _ _ _, hmade, (by repeat (first | with_reducible exact Below.refl _ _ | with_reducible assumption | refine Below.drew ?_ | refine below_drewN ?_ | refine Below.alloc ?_ (by first | omega | (simp; done) | (simp; omega)) _ | refine below_setRow ?_ (by omega) _ | refine Below.setCell ?_ (by first | omega | (simp; done) | (simp; omega)) _))⟩
    · obtain ⟨g, rfl, hg, hc⟩ := hcell (by omega)
      obtain ⟨g2, cap, w2, hr, ho, hbl⟩ := run_cloneS (P := Try.prog) (w := w1) (t := 66) (ty := 66) (e := 70) (c := cp) (ad := ⟨g, 0, none⟩) (n := n) (news := us) Try.underlying66 hi1 hz hs1 hb8 (by simp [Value.cells]) (by omega) hul (fun j u hu => by
        rw [Addr.add_mid, Nat.zero_add, Below.cell (B := w1.heap.size) ((Below.refl _ _).alloc (Nat.le_refl _) _) (show g < w1.heap.size from hg)]
        exact hc j u hu) hone (by omega) (by omega) (by omega)
      exact ⟨_, _, _, hr, ho, hbl⟩
  have HAPP := Lib.hid happ
  clear happ
  go_wp2_with (at_builtin; refine wpList_appK rfl (.tmp 27) (.tmp 31) rfl rfl rfl HAPP.out ?_)
  refine (HFU.out _ (hb1.step (hbel.mono (Nat.le_refl _)))).mono ?_
  rintro e w3 ⟨A3, c3, rfl, hown3, hb3⟩
  have hs2 := hbel.size
  rw [hFl] at hown3 ⊢
  have hvF : Bs w3 (.slice A3 256 c3) F := by
    exact hown3.bs (by rw [hFl]; omega)
  have hvk : ∀ k, (Value.slice A3 256 c3).ownBlock = some k → w2.heap.size ≤ k := fun k hk => by
    have h8 : w3.ownsRow w2.heap.size 5 1 (.slice A3 256 c3) F.length (u8v F) := hown3
    exact (World.ownsRow.lt h8 k hk).1
  have hs3 := hb3.size
  have hB13 : Below w1.heap.size w1 w3 := hbel.trans (hb3.mono hs2)
  have hal : Below w3.heap.size w3 (w3.alloc (.cells #[.int .i64 i, .slice A3 256 c3] 70)) := (by repeat (first | with_reducible exact Below.refl _ _ | with_reducible assumption | refine Below.drew ?_ | refine below_drewN ?_ | refine Below.alloc ?_ (by first | omega | (simp; done) | (simp; omega)) _ | refine below_setRow ?_ (by omega) _ | refine Below.setCell ?_ (by first | omega | (simp; done) | (simp; omega)) _))
  have hR5 := RowIs.new w3 #[.int .i64 i, .slice A3 256 c3] 70
  have hown5 := ownsRow_step (ownsRow_step hown hb3) hal
  obtain ⟨g, cap, w6, hrun6, hown6, hgr6, hat6, hlt6⟩ := run_append_lies (P := Try.prog) (w := w3.alloc (.cells #[.int .i64 i, .slice A3 256 c3] 70)) 66 66 w1.heap.size 70 ii _ 2 32 Try.underlying66 hi1 hz hs1 hb8 (by simp [Value.cells]) (by omega) _ n us hown5 ⟨w3.heap.size, 0, none⟩ 1 1 [.int .i64 i, .slice A3 256 c3] rfl
    (fun j u hu => by
      obtain ⟨t, ht⟩ := hR5.row.heap
      rw [hR5.has] at ht
      rw [Addr.add_mid, Nat.zero_add, cell_of_row _ _ j _ t (0, 0) ht]
      simpa using hu) (fun u hu => by simp at hu; rcases hu with rfl | rfl <;> rfl) (by omega) (by simp only [maxLen]; omega) (by omega) (by simp; omega) _ rfl
  have hB6 : Below w1.heap.size w1 w6 := (hB13.trans (hal.mono (by omega))).grown hgr6 (by simp; omega) (fun k hk => (World.ownsRow.lt hown5 k hk).1)
  have hgg : w1.heap.size ≤ g := (World.ownsRow.lt hown6 g rfl).1
  have h6 := h1.step hB6
  have R6 := h6.row
  have c6 := R6.cells5.2.1
  have z6 := R6.fz 1
  have HRUN := Lib.hid hrun6
  have HOWN := Lib.hid hown6
  have HELS := Lib.hid hels
  have hgL : ¬ L.has g := fun hk => by have h1 := HL.out g hk; have h2 := hu1.size; omega
  have hsF : Side w6 L (.slice A3 256 c3) F := by
    have h5 : Side (w3.alloc (.cells #[.int .i64 i, .slice A3 256 c3] 70)) L (.slice A3 256 c3) F := Side.step (w := w3) ⟨hvF, fun _ g' o' n' c' e hk => by
      injection e with e1
      subst e1
      have h1 := hvk g' rfl
      have h2 := HL.out g' hk
      have h3 := hu1.size
      omega⟩ hal
    refine ⟨?_, h5.off⟩
    obtain ⟨A', c', e', b1, b2, hr⟩ := h5.bs
    refine ⟨A', c', e', b1, b2, fun h0 => ?_⟩
    obtain ⟨g', o', eA, hg', hc⟩ := hr h0
    refine ⟨g', o', eA, ?_, fun j hj => ?_⟩
    · have h1 : g' < (w3.alloc (.cells #[.int .i64 i, .slice A3 256 c3] 70)).heap.size := hg'
      exact Nat.lt_of_lt_of_le h1 hgr6.size
    · have hne : ¬ some g' = (Value.slice A2 n c2).ownBlock := fun e => by
        have h1 := (World.ownsRow.lt hown g' e.symm).2
        have h2 := hvk g' (by rw [e', eA]; rfl)
        omega
      rw [World.cell?_of_block (w := w3.alloc (.cells #[.int .i64 i, .slice A3 256 c3] 70)) (hgr6.block g' hg' hne)]
      exact hc j hj
  have hncap : n + 1 ≤ cap := by
    rcases hown6.2 with ⟨h, _⟩ | ⟨_, cap', _, hv, _, _, hc, _⟩
    · injection h with h; cases h
    · injection hv with _ _ h3; omega
  clear hrun6 hgr6 hat6 hown5 hown6 hels hcell hone hR5 c1 hown hown3 hb1
  go_wp2_with (at_builtin; refine wpList_appK rfl (.tmp 32) (.tmp 37) rfl rfl rfl HRUN.out ?_)
  go_ret
  have hu6 : Upd r w6 (w6.setCell ⟨r, 1, none⟩ (.slice (some ⟨g, 0, none⟩) (n + 1) cap)) := (Upd.refl r w6).put 1 _
  have hu : Upd r w (w6.setCell ⟨r, 1, none⟩ (.slice (some ⟨g, 0, none⟩) (n + 1) cap)) := (hu1.then hB6).trans hu6
  have hwr : w.heap.size ≤ w1.heap.size := hu1.size
  have hcg : ∀ j u, (us ++ [.int .i64 i, .slice A3 256 c3])[j]? = some u → w6.cell? ⟨g, j, none⟩ = some u := fun j u hu => by
    have := (World.ownsRow.cells HOWN.out (g := g) rfl) j u hu
    rw [Addr.add_mid, Nat.zero_add] at this
    exact this
  have hpend : Pend L w6 r (.slice (some ⟨g, 0, none⟩) (n + 1) cap) (d.pend ++ [(i, F)]) := by
    have hlen : (d.pend ++ [(i, F)]).length = n + 1 := by rw [List.length_append, HN.out]; rfl
    refine ⟨some ⟨g, 0, none⟩, cap, by rw [hlen], by rw [hlen]; exact hncap, fun _ => ⟨g, rfl, hlt6, hgL, by omega, fun k hk => ?_⟩⟩
    rw [hlen] at hk
    by_cases hkn : k < n
    · obtain ⟨B, n', c', q1, q2, q3⟩ := HELS.out k hkn
      have e : (d.pend ++ [(i, F)]).getD k (0, []) = d.pend.getD k (0, []) := by
        unfold List.getD
        rw [List.getElem?_append_left (by rw [HN.out]; exact hkn)]
      rw [e]
      exact ⟨.slice B n' c', hcg _ _ (by rw [List.getElem?_append_left (by omega)]; exact q1), hcg _ _ (by rw [List.getElem?_append_left (by omega)]; exact q2), q3.step hB6⟩
    · obtain rfl : k = n := by omega
      have e : (d.pend ++ [(i, F)]).getD k (0, []) = (i, F) := by
        unfold List.getD
        rw [List.getElem?_append_right (by rw [HN.out]; exact Nat.le_refl _), HN.out]
        simp
      rw [e]
      exact ⟨.slice A3 256 c3, hcg _ _ (by rw [List.getElem?_append_right (by omega), hul]; simp), hcg _ _ (by rw [List.getElem?_append_right (by omega), hul]; simp), hsF⟩
  refine ⟨by rw [HD.out.2]; rfl, .slice As d.n cs, .slice (some ⟨g, 0, none⟩) (n + 1) cap, fl, lf1, ?_, hu⟩
  rw [HD.out.1, ← HF.out]
  exact h6.put _ hu6 (by have := R6.put 1 (.slice (some ⟨g, 0, none⟩) (n + 1) cap); simpa using this) h6.fuse h6.secs hpend
    ⟨h1.ok.n1, h1.ok.n6, by show (spl d.seen (256 * i) F).length = 256 * d.n; rw [spl_length _ _ _ (by have := h.ok.seen; rw [this, hFl]; omega)]; exact h.ok.seen, h1.ok.sure, fun p hp => by
      rcases List.mem_append.1 hp with hp | hp
      · exact h1.ok.pend p hp
      · rw [List.mem_singleton.1 hp]; exact ⟨hi, hFl⟩, h1.ok.lo, h1.ok.hi⟩ (fun j hj => cons_write h.ok hi hFl h.cons j hj)
end Go.Proofs.Ytbfloejpgjheiaa
