/- Layer 11, the document's device: the pending writes that are kept. -/
import Derived.Test.YtbfloejpgjheiaaPly2
namespace Go.Proofs.Ytbfloejpgjheiaa
open Go.RowKit
theorem Try.infoSl : (Try.prog.info? 29).map (fun i => (i.zero, i.size, i.bytes)) = some (some (.slice none 0 0), 1, 24) := by kernel_rfl
/-- the sectors' slices, as a list -/
theorem Secs.list {L : DL} {w : World} {r n : Nat} {vs : Value} {S : List UInt8} (h : Secs L w r vs n S) (h0 : 0 < n) :
    ∃ (g c : Nat) (us : List Value), vs = .slice (some ⟨g, 0, none⟩) n c ∧ n ≤ c ∧ g < w.heap.size ∧ ¬ L.has g ∧ g ≠ r ∧ us.length = n ∧ (∀ j v, us[j]? = some v → w.cell? ⟨g, j, none⟩ = some v) ∧ ∀ j, j < n → ∃ A n' c', us.getD j (.slice none 0 0) = .slice A n' c' ∧ Side w L (.slice A n' c') (sect S j) := by
  obtain ⟨A, c, rfl, hc, h1⟩ := h
  obtain ⟨g, rfl, hg, hl, hr, hj⟩ := h1 h0
  have hex : ∀ j, ∃ v, j < n → w.cell? ⟨g, j, none⟩ = some v ∧ Side w L v (sect S j) := fun j => by
    by_cases h : j < n
    · obtain ⟨v, h2⟩ := hj j h
      exact ⟨v, fun _ => h2⟩
    · exact ⟨.slice none 0 0, fun h' => absurd h' h⟩
  let f : Nat → Value := fun j => Classical.choose (hex j)
  refine ⟨g, c, (List.range n).map f, rfl, hc, hg, hl, hr, by simp, fun j v hv => ?_, fun j hjn => ?_⟩
  · have hjn : j < n := by
      rcases Nat.lt_or_ge j n with h | h
      · exact h
      · rw [List.getElem?_eq_none (by simpa using h)] at hv; cases hv
    have : v = f j := by simp [hjn] at hv; exact hv.symm
    rw [this]; exact (Classical.choose_spec (hex j) hjn).1
  · have hs := (Classical.choose_spec (hex j) hjn).2
    have e : ((List.range n).map f).getD j (.slice none 0 0) = f j := by simp [List.getD, hjn]
    rw [e]
    obtain ⟨A', c', e', _⟩ := hs.bs
    have hs' : Side w L (f j) (sect S j) := hs
    have e2 : f j = .slice A' _ c' := e'
    rw [e2] at hs' ⊢
    exact ⟨_, _, _, rfl, hs'⟩
/-- which of the pending are kept -/
def kept (all : Bool) (ks : List Bool) (n : Nat) : List Bool := if all = true then List.replicate n true else ks
def KeepR (L : DL) (r : Nat) (d : Dv) (all : Bool) (ks : List Bool) (fl : Bool) (lf : Int) (w : World) (e : Ending) (w' : World) : Prop :=
  e = .returned (.tuple #[]) ∧ ∃ vs, RowIs w' r #[vs, .slice none 0 0, .bool fl, .int .i64 lf, .bool d.down] ∧ Secs L w' r vs d.n (Dv.keepK d.pend (kept all ks d.pend.length) d.sure d.pend.length) ∧ Upd r w w'
/-- the loop's own row -/
structure Kp3 (L : DL) (w : World) (g n : Nat) (us junk : List Value) (S : List UInt8) : Prop where
  row : RowIs w g (us ++ junk).toArray
  len : us.length = n
  one : ∀ j, j < n → ∃ A n' c', us.getD j (.slice none 0 0) = .slice A n' c' ∧ Side w L (.slice A n' c') (sect S j)
theorem Kp3.step {L : DL} {w w' : World} {g n : Nat} {us junk : List Value} {S : List UInt8} (h : Kp3 L w g n us junk S) (hb : Below w.heap.size w w') : Kp3 L w' g n us junk S :=
  ⟨h.row.step hb, h.len, fun j hj => by
    obtain ⟨A, a, b, e, hs⟩ := h.one j hj
    exact ⟨A, a, b, e, hs.step hb⟩⟩
theorem Kp3.no8 {L : DL} {w : World} {g n : Nat} {us junk : List Value} {S : List UInt8} (h : Kp3 L w g n us junk S) (hj : ∀ v ∈ junk, ∀ b, v ≠ .int .u8 b) : No8 w g := by
  intro i b hc
  obtain ⟨t, ht⟩ := h.row.row.heap
  rw [h.row.has] at ht
  rw [cell_of_row w g i _ t (0, 0) ht] at hc
  simp only [List.getElem?_toArray] at hc
  by_cases hi : i < n
  · obtain ⟨A, a, c, e, _⟩ := h.one i hi
    rw [List.getElem?_append_left (by rw [h.len]; exact hi)] at hc
    simp [List.getD, hc] at e
  · rw [List.getElem?_append_right (by rw [h.len]; omega)] at hc
    exact hj _ (List.mem_of_getElem? hc) b rfl
theorem Kp3.put {L : DL} {w : World} {g n i : Nat} {us junk : List Value} {S F : List UInt8} {A : Option Addr} {a c : Nat} (h : Kp3 L w g n us junk S) (hj : ∀ v ∈ junk, ∀ b, v ≠ .int .u8 b) (hl : S.length = 256 * n) (hi : i < n) (hF : F.length = 256) (hs : Side w L (.slice A a c) F) :
    Kp3 L (w.setCell ⟨g, i, none⟩ (.slice A a c)) g n (us.set i (.slice A a c)) junk (spl S (256 * i) F) := by
  have hu : Upd g w (w.setCell ⟨g, i, none⟩ (.slice A a c)) := (Upd.refl g w).put i _
  refine ⟨?_, by simp [h.len], fun j hjn => ?_⟩
  · have := h.row.put i (.slice A a c)
    simp only [List.setIfInBounds_toArray] at this
    rw [List.set_append_left _ _ (by rw [h.len]; exact hi)] at this
    exact this
  · rw [sect_spl S F i j n hl hi hF]
    by_cases e : j = i
    · subst e
      rw [if_pos rfl]
      exact ⟨A, a, c, by simp [List.getD, h.len, hjn], hs.mv (h.no8 hj) (Mv.upd hu)⟩
    · rw [if_neg e]
      obtain ⟨A', a', c', e1, hs'⟩ := h.one j hjn
      exact ⟨A', a', c', by rw [← e1]; simp [List.getD, List.getElem?_set, Ne.symm e], hs'.mv (h.no8 hj) (Mv.upd hu)⟩
theorem Secs.of3 {L : DL} {w : World} {r g n c : Nat} {us junk : List Value} {S : List UInt8} (h : Kp3 L w g n us junk S) (hc : n ≤ c) (hl : ¬ L.has g) (hr : g ≠ r) : Secs L w r (.slice (some ⟨g, 0, none⟩) n c) n S :=
  ⟨_, c, rfl, hc, fun _ => ⟨g, rfl, h.row.lt, hl, hr, fun j hj => by
    obtain ⟨A, a, b, e, hs⟩ := h.one j hj
    refine ⟨.slice A a b, ?_, hs⟩
    obtain ⟨t, ht⟩ := h.row.row.heap
    rw [h.row.has] at ht
    have hlt : j < us.length := by rw [h.len]; exact hj
    rw [cell_of_row w g j _ t (0, 0) ht, ← e, List.getElem?_toArray, List.getElem?_append_left hlt, List.getElem?_eq_getElem hlt]
    simp [List.getD, hlt]⟩⟩
set_option maxRecDepth 100000 in
set_option maxHeartbeats 1600000 in
theorem rkeep_any (L : DL) (r : Nat) (d : Dv) (vs vp : Value) (fl : Bool) (lf : Int) (w : World) (h : RD L w r d vs vp fl lf) (hL : ∀ k, L.has k → k < w.heap.size) (all : Bool) (A : Option Addr) (c : Nat) (ks : List Bool) (hr : RdB w w.heap.size A ks) (hra : 0 < ks.length → ∀ g o, A = some ⟨g, o, none⟩ → g ≠ r) (hpl : d.pend.length ≤ 1000) :
    Calls Try.prog 35 #[.pointer (some ⟨r, 0, none⟩), .bool all, .slice A ks.length c] w (KeepR L r d all ks fl lf w) := by
  have h1 := h.ok.n1
  have h6 := h.ok.n6
  obtain ⟨gs, cs, us, rfl, hcs, hgs, hgl, hgr, hus, hcell, hside⟩ := h.secs.list (by omega)
  obtain ⟨Ap, cp, rfl, hcp, hpend⟩ := id h.pend
  obtain ⟨i, hi1, hz, hs, hb⟩ := info_parts Try.infoSl
  have hone : ∀ u ∈ us, u.oneCell' = true := fun u hu => by
    obtain ⟨j, hj, e⟩ := List.getElem_of_mem hu
    obtain ⟨A', a', c', e', _⟩ := hside j (by omega)
    have : us.getD j (.slice none 0 0) = u := by simp [List.getD, hj, e]
    rw [this] at e'
    rw [e']; rfl
  have happ := run_append_grow (P := Try.prog) (w := w.alloc (.cells #[] 29)) 65 65 29 i _ Try.underlying65 hi1 hz ⟨w.heap.size, 0, none⟩ 0 0 [] (by simp) (by simp) ⟨gs, 0, none⟩ d.n cs us (by rw [hus, hs]; omega) (fun j u hu => by
    rw [Addr.add_mid, Nat.zero_add, Below.cell (B := w.heap.size) ((Below.refl _ _).alloc (Nat.le_refl _) _) (show gs < w.heap.size from hgs)]
    exact hcell j u hu) (by omega) (by omega) (by rw [Nat.zero_add, nextslicecap_zero (by omega), hb]; omega)
  rw [Nat.zero_add] at happ
  obtain ⟨cap, hcap⟩ : ∃ cap, cap = grownCap (w.alloc (.cells #[] 29)) d.n 0 29 := ⟨_, rfl⟩
  have hncap : d.n ≤ cap := by rw [hcap]; exact grownCap_ge _ _ _ _
  obtain ⟨junk, hjunk⟩ : ∃ junk, junk = List.replicate (cap - d.n) (Value.slice none 0 0) := ⟨_, rfl⟩
  have hj8 : ∀ v ∈ junk, ∀ b, v ≠ .int .u8 b := fun v hv b => by
    rw [hjunk] at hv
    rw [(List.mem_replicate.1 hv).2]; simp
  have e0 : ([] : List Value).toArray ++ us.toArray ++ Builtin.zeroCells (Value.slice none 0 0).cells (cap - d.n) = (us ++ junk).toArray := by
    have : Builtin.zeroCells (Value.slice none 0 0).cells (cap - d.n) = junk.toArray := by
      rw [hjunk]
      apply Array.ext
      · simp [Builtin.zeroCells, Value.cells]
      · intro j h1 h2
        simp [Builtin.zeroCells, Value.cells, Nat.mod_one]
    rw [this]; simp
  rw [← hcap, e0] at happ
  obtain ⟨w1, hw1⟩ : ∃ w1, w1 = (w.alloc (.cells #[] 29)).drew.alloc (.cells (us ++ junk).toArray 29) := ⟨_, rfl⟩
  have hB : Below w.heap.size w w1 := by rw [hw1]; exact (by repeat (first | with_reducible exact Below.refl _ _ | with_reducible assumption | refine Below.drew ?_ | refine below_drewN ?_ | refine Below.alloc ?_ (by first | omega | (simp; done) | (simp; omega)) _ | refine below_setRow ?_ (by omega) _ | refine Below.setCell ?_ (by first | omega | (simp; done) | (simp; omega)) _))
  have K0 : Kp3 L w1 (w.heap.size + 1) d.n us junk (Dv.keepK d.pend (kept all ks d.pend.length) d.sure 0) :=
    ⟨by rw [hw1]; exact RowIs.new' (by simp), hus, fun j hj => by
      obtain ⟨A', a', c', e, hs'⟩ := hside j hj
      exact ⟨A', a', c', e, hs'.step hB⟩⟩
  rw [← hw1] at happ
  have happ' : (Builtin.append_ #[65, 65] 65 #[.slice (some ⟨w.heap.size, 0, none⟩) 0 0, .slice (some ⟨gs, 0, none⟩) d.n cs]).run Try.prog (w.alloc (.cells #[] 29)) = .ok (.slice (some ⟨w.heap.size + 1, 0, none⟩) d.n cap) w1 := by
    rw [happ]; simp
  have HAPP := Lib.hid happ'
  obtain ⟨m, hm⟩ : ∃ m, ks.length = m := ⟨_, rfl⟩
  obtain ⟨N, hN⟩ : ∃ N, d.pend.length = N := ⟨_, rfl⟩
  obtain ⟨KS, hKS⟩ : ∃ KS, KS = kept all ks N := ⟨_, rfl⟩
  have hRD := h
  rw [hm]
  rw [hN, ← hKS] at K0
  rw [hN] at hpl hpend hRD
  have c0 := h.row.cells5.1
  have hrl := h.row.lt
  have HN := Lib.hid hN
  have HM := Lib.hid hm
  have HKS := Lib.hid hKS
  clear happ happ' e0 hcap hjunk hw1 hcell hside hone hus hi1 hz hs hb hN hm hKS h
  go_enter Try.func35, Try.ntmps35
  go_wp2_with (at_builtin; refine wpList_appK rfl (.tmp 8) (.tmp 12) rfl rfl rfl HAPP.out ?_)
  have J8 := Lib.hid hj8
  have HKSN : Hid (∀ k, k ≤ N → (Dv.keepK d.pend KS d.sure k).length = 256 * d.n) := Lib.hid fun k hk => Dv.keepK_length hRD.ok KS k (by rw [HN.out]; exact hk)
  have OK := Lib.hid hRD.ok
  clear hj8
  go_loopw [7] (fun i wr => ∃ (k : Nat) (us' : List Value), k ≤ N ∧ i = .int .i64 k ∧ Kp3 L wr (w.heap.size + 1) d.n us' junk (Dv.keepK d.pend KS d.sure k) ∧ Below w.heap.size w wr) (fun i _ => N - (intOf i).toNat)
  case atStart => exact ⟨0, us, by omega, rfl, K0, hB⟩
  case round =>
    clear K0 hB c0
    obtain ⟨k, us', hk, rfl, hK, hb⟩ := hrel
    have hsz := hb.size
    have c1 : wr.cell? ⟨r, 1, none⟩ = some (.slice Ap N cp) := (hRD.step hb).row.cells5.2.1
    by_cases hlt : k < N
    · have hk0 : (0 : Int) ≤ k := by omega
      have hk1 : (k : Int) < N := by omega
      obtain ⟨gp, rfl, hgp, hgpl, hgpr, hpk⟩ := hpend (by omega)
      obtain ⟨vB, q1, q2, q3⟩ := hpk k hlt
      obtain ⟨hpi, hpF⟩ := Dv.pend_at OK.out k (by rw [HN.out]; exact hlt)
      have keepT : KS.getD k false = true → Dv.keepK d.pend KS d.sure (k + 1) = spl (Dv.keepK d.pend KS d.sure k) (256 * (d.pend.getD k (0, [])).1) (d.pend.getD k (0, [])).2 := fun h => by simp only [Dv.keepK, h, if_true]
      have keepF : KS.getD k false = false → Dv.keepK d.pend KS d.sure (k + 1) = Dv.keepK d.pend KS d.sure k := fun h => by simp only [Dv.keepK, h]; rfl
      obtain ⟨i, hi⟩ : ∃ i, i = (d.pend.getD k (0, [])).1 := ⟨_, rfl⟩
      obtain ⟨F, hF⟩ : ∃ F, F = (d.pend.getD k (0, [])).2 := ⟨_, rfl⟩
      rw [← hi] at q1 hpi keepT
      rw [← hF] at q3 hpF keepT
      obtain ⟨AB, cB, eB, -⟩ := id q3.bs
      subst eB
      rw [hpF] at q2 q3
      have q1' : wr.cell? ⟨gp, k * 2, none⟩ = some (.int .i64 i) := by rw [hb.cell (show gp < w.heap.size from hgp)]; exact q1
      have q2' : wr.cell? ⟨gp, k * 2 + 1, none⟩ = some (.slice AB 256 cB) := by rw [hb.cell (show gp < w.heap.size from hgp)]; exact q2
      have hsB := q3.step hb
      have SL := Lib.hid (HKSN.out k hk)
      have KT := Lib.hid keepT
      have KF := Lib.hid keepF
      clear q1 q2 q3 hi hF keepT keepF hpk
      by_cases hall : all = true
      · subst hall
        have hkt : KS.getD k false = true := by rw [HKS.out, kept, if_pos rfl]; simp [List.getD, hlt]
        have KEEP := Lib.hid (KT.out hkt)
        clear hkt
        · skip
          have hci : wr.cell? ⟨w.heap.size + 1, i, none⟩ = some (us'.getD i (.slice none 0 0)) := by
            obtain ⟨t, ht⟩ := hK.row.row.heap
            rw [hK.row.has] at ht
            have hlt : i < us'.length := by rw [hK.len]; exact hpi
            rw [cell_of_row wr (w.heap.size + 1) i _ t (0, 0) ht, List.getElem?_toArray, List.getElem?_append_left hlt, List.getElem?_eq_getElem hlt]
            simp [List.getD, hlt]
          have hfz := hK.row.fz i
          have hi0 : (0 : Int) ≤ i := by omega
          have hi1 : (i : Int) < d.n := by omega
          have hgB : w.heap.size ≤ w.heap.size + 1 := by omega
          have HK3 := Lib.hid hK
          have HB3 := Lib.hid hb
          clear hK hb
          go_wp2_with fail
          go_wp2_with (first | (refine wp_region_lex [] (by kernel_rfl) (by decide +kernel) ?_) | (refine wpLex_nil ?_) | (refine wpLex_pure rfl (fun _ _ => ?_); go_simp; try go_bits) | (refine wpLex_read rfl (fun _ _ => ?_); go_simp; try go_bits) | (refine wpLex_loud rfl (fun _ _ => ?_)))
          refine ⟨⟨k + 1, us'.set i (.slice AB 256 cB), by omega, by go_num, ?_, (HB3.out.setCell hgB _).drew⟩, by simp [intOf]; omega⟩
          rw [KEEP.out]
          have := (HK3.out.put J8.out SL.out hpi hpF hsB).step (Below.refl _ _).drew
          exact this
      · obtain rfl : all = false := by simpa using hall
        have hks : KS = ks := by rw [HKS.out, kept]; rfl
        by_cases hkm : k < m
        · have hkm' : (k : Int) < m := by omega
          obtain ⟨gk, ok, rfl, hgk, hck⟩ := hr (by rw [HM.out]; omega)
          have hbk := hck k (by rw [HM.out]; exact hkm)
          rw [← hb.cell (show gk < w.heap.size from hgk)] at hbk
          obtain ⟨bb, hbb⟩ : ∃ b, b = ks.getD k false := ⟨_, rfl⟩
          rw [← hbb] at hbk
          rw [← hks] at hbb
          have HBB := Lib.hid hbb
          clear hck hbb hr hra
          cases bb with
          | false =>
            go_wp2_with fail
            exact ⟨⟨k + 1, us', by omega, by go_num, by rw [KF.out HBB.out.symm]; exact hK, hb⟩, by simp [intOf]; omega⟩
          | true =>
            have KEEP := Lib.hid (KT.out HBB.out.symm)
            have hci : wr.cell? ⟨w.heap.size + 1, i, none⟩ = some (us'.getD i (.slice none 0 0)) := by
              obtain ⟨t, ht⟩ := hK.row.row.heap
              rw [hK.row.has] at ht
              have hlt : i < us'.length := by rw [hK.len]; exact hpi
              rw [cell_of_row wr (w.heap.size + 1) i _ t (0, 0) ht, List.getElem?_toArray, List.getElem?_append_left hlt, List.getElem?_eq_getElem hlt]
              simp [List.getD, hlt]
            have hfz := hK.row.fz i
            have hi0 : (0 : Int) ≤ i := by omega
            have hi1 : (i : Int) < d.n := by omega
            have hgB : w.heap.size ≤ w.heap.size + 1 := by omega
            have HK3 := Lib.hid hK
            have HB3 := Lib.hid hb
            clear hK hb
            go_wp2_with fail
            go_wp2_with (first | (refine wp_region_lex [] (by kernel_rfl) (by decide +kernel) ?_) | (refine wpLex_nil ?_) | (refine wpLex_pure rfl (fun _ _ => ?_); go_simp; try go_bits) | (refine wpLex_read rfl (fun _ _ => ?_); go_simp; try go_bits) | (refine wpLex_loud rfl (fun _ _ => ?_)))
            refine ⟨⟨k + 1, us'.set i (.slice AB 256 cB), by omega, by go_num, ?_, (HB3.out.setCell hgB _).drew⟩, by simp [intOf]; omega⟩
            rw [KEEP.out]
            have := (HK3.out.put J8.out SL.out hpi hpF hsB).step (Below.refl _ _).drew
            exact this
        · have hkm' : ¬ (k : Int) < m := by omega
          have hkf : KS.getD k false = false := by rw [hks]; unfold List.getD; rw [List.getElem?_eq_none (by rw [HM.out]; omega)]; rfl
          have KEEP := Lib.hid (KF.out hkf)
          clear hkf hks
          go_wp2_with fail
          exact ⟨⟨k + 1, us', by omega, by go_num, by rw [KEEP.out]; exact hK, hb⟩, by simp [intOf]; omega⟩
    · have hk1 : ¬ (k : Int) < N := by omega
      obtain rfl : k = N := by omega
      have hR2 := hRD.step hb
      obtain ⟨d0, d1, d2, d3, d4⟩ := hR2.row.cells5
      have z0 := hR2.row.fz 0
      have z1 := hR2.row.fz 1
      clear c1 d2 d3 d4
      go_wp2_with fail
      go_end0
      have hu : Upd r w ((wr.setCell ⟨r, 0, none⟩ (.slice (some ⟨w.heap.size + 1, 0, none⟩) d.n cap)).setCell ⟨r, 1, none⟩ (.slice none 0 0)) := (((Upd.of hb).put 0 _).put 1 _)
      have hu2 : Upd r wr ((wr.setCell ⟨r, 0, none⟩ (.slice (some ⟨w.heap.size + 1, 0, none⟩) d.n cap)).setCell ⟨r, 1, none⟩ (.slice none 0 0)) := (((Upd.refl r wr).put 0 _).put 1 _)
      have hgL : ¬ L.has (w.heap.size + 1) := fun hk => by have := hL _ hk; omega
      refine ⟨rfl, .slice (some ⟨w.heap.size + 1, 0, none⟩) d.n cap, ?_, ?_, hu⟩
      · have := (hR2.row.put 0 (.slice (some ⟨w.heap.size + 1, 0, none⟩) d.n cap)).put 1 (.slice none 0 0)
        simpa using this
      · have hs := (Secs.of3 hK hncap hgL (show w.heap.size + 1 ≠ r by omega)).mv hR2.no8 (Mv.upd hu2)
        rw [HN.out, ← HKS.out]
        exact hs
end Go.Proofs.Ytbfloejpgjheiaa
