/- ModelFirst and ModelLost: the plain laws, and the walks of the statements' functions. -/
import Derived.Test.YtlfplikkifjnfaaMdlB
namespace Go.Proofs.Ytlfplikkifjnfaa
open Go.RowKit
theorem nthE_take (es : List Ev) (m j : Nat) (h : j < m) : nthE (es.take m) j = nthE es j := by
  rw [nthE_def, nthE_def, List.getD_eq_getElem?_getD, List.getD_eq_getElem?_getD, List.getElem?_take, if_pos h]
theorem stK_take (es : List Ev) (m : Nat) : ∀ k, k ≤ m → stK (es.take m) k = stK es k
  | 0, _ => rfl
  | k + 1, h => by rw [stK, stK, nthE_take es m k (by omega), stK_take es m k (by omega)]
theorem okK_take (es : List Ev) (m j : Nat) (h : j < m) : okK (es.take m) j = okK es j := by
  unfold okK; rw [nthE_take es m j h, stK_take es m j (by omega)]
theorem first_lt {es : List Ev} {m : Nat} {r s : Int} (hm : m ≤ es.length) (h : ChkVal es r) (k : ChkVal (es.take m) s) (h0 : 0 ≤ r) (h1 : r < m) : s = r := by
  rcases h with ⟨i, hi, rfl, h2, h3⟩ | ⟨rfl, _⟩
  · have hi' : i < m := by omega
    refine k.uniq (.inl ⟨i, by rw [List.length_take]; omega, rfl, by rw [okK_take es m i hi']; exact h2, fun j hj => by rw [okK_take es m j (by omega)]; exact h3 j hj⟩)
  · omega
theorem first_ge {es : List Ev} {m : Nat} {r s : Int} (hm : m ≤ es.length) (h : ChkVal es r) (k : ChkVal (es.take m) s) (h1 : r < 0 ∨ (m : Int) ≤ r) : s = -1 := by
  have hl : (es.take m).length = m := by rw [List.length_take]; omega
  refine k.uniq (.inr ⟨rfl, fun j hj => ?_⟩)
  rw [hl] at hj
  rw [okK_take es m j hj]
  rcases h with ⟨i, hi, rfl, h2, h3⟩ | ⟨rfl, h2⟩
  · exact h3 j (by omega)
  · exact h2 j (by omega)
theorem lost_step (d who code : Int) (x : List UInt8) (s : BL × BL) (h : (seeP d who code x s).1 = true) : lostP d who code x s = (seeP d who code x s).2 := by
  unfold lostP
  by_cases hc : tellsB d who code = true ∧ d = 6
  · rw [if_pos hc]
    unfold seeP at h ⊢
    rw [if_pos hc.1, if_pos hc.2] at h ⊢
    have key : ∀ l : BL, (takeP x l).1 = true → pickP x l = (takeP x l).2 := fun l hl => by
      cases l with
      | nil => simp [takeP] at hl
      | cons m r =>
        by_cases hm : m = x
        · simp [takeP, pickP, hm]
        · simp [takeP, hm] at hl
    by_cases hw : who = 0
    · rw [if_pos hw] at h ⊢
      rw [if_pos hw]
      rw [key s.2 h]
    · rw [if_neg hw] at h ⊢
      rw [if_neg hw]
      rw [key s.1 h]
  · rw [if_neg hc]
theorem lost_all (es : List Ev) : ∀ k, (∀ j, j < k → okK es j = true) → lostK es k = stK es k
  | 0, _ => rfl
  | k + 1, h => by
    rw [lostK, stK, lost_all es k (fun j hj => h j (by omega))]
    exact lost_step _ _ _ _ _ (h k (by omega))
def TrueRes' (w : World) (e : Ending) (w' : World) : Prop := e = .returned (.bool true) ∧ Below w.heap.size w w'
set_option maxRecDepth 100000 in
set_option maxHeartbeats 1600000 in
theorem first_any (A : Option Addr) (c : Nat) (es : List Ev) (m : Nat) (w : World) (hc : es.length ≤ c) (hr : RdEv w w.heap.size A es) (hl : es.length ≤ 60) (hm : m ≤ es.length) :
    Calls Try.prog 5 #[.slice A es.length c, .int .i64 m] w (TrueRes' w) := by
  have HRD := Lib.hid hr
  obtain ⟨n, hn⟩ : ∃ n, n = es.length := ⟨_, rfl⟩
  have HN := Lib.hid hn
  rw [← hn] at hc hl hm ⊢
  have i1 : ¬ (60 : Int) < n := by omega
  have i2 : ¬ (m : Int) < 0 := by omega
  have i3 : ¬ (n : Int) < m := by omega
  have j1 : (0 : Int) ≤ (m : Int) := by omega
  have j2 : (m : Int) ≤ c := by omega
  clear hr hn
  go_enter Try.func5, Try.ntmps5
  go_wp2_with fail
  refine (awake_any w).mono ?_
  rintro e w1 ⟨rfl, HB⟩
  have r1 := (HRD.out.keep HB).more HB.size
  have CC := check_any A c es w1 r1 (by rw [← HN.out]; omega)
  rw [← HN.out] at CC
  have CC := Lib.hid CC
  clear r1
  go_wp2_with fail
  refine CC.out.mono ?_
  rintro e w2 ⟨⟨r, rfl, hv⟩, hb⟩
  replace HB := HB.trans (hb.mono HB.size)
  have HV := Lib.hid hv
  have r2 := ((HRD.out.keep HB).more HB.size).take m
  have hlt : (es.take m).length = m := by rw [List.length_take, ← HN.out]; omega
  have CC := check_any A c (es.take m) w2 r2 (by rw [hlt]; omega)
  rw [hlt] at CC
  have CC := Lib.hid CC
  clear r2 hv hb hlt
  go_wp2_with fail
  refine CC.out.mono ?_
  rintro e w3 ⟨⟨s, rfl, hv⟩, hb⟩
  replace HB := HB.trans (hb.mono HB.size)
  have HS := Lib.hid hv
  clear hv hb CC
  by_cases h0 : 0 ≤ r
  · by_cases h1 : r < m
    · obtain rfl := first_lt (by rw [← HN.out]; exact hm) HV.out HS.out h0 h1
      go_wp2_with fail
      go_ret
      exact ⟨rfl, HB⟩
    · obtain rfl := first_ge (by rw [← HN.out]; exact hm) HV.out HS.out (.inr (by omega))
      go_wp2_with fail
      go_ret
      exact ⟨rfl, HB⟩
  · obtain rfl := first_ge (by rw [← HN.out]; exact hm) HV.out HS.out (.inl (by omega))
    go_wp2_with fail
    go_ret
    exact ⟨rfl, HB⟩
set_option maxRecDepth 100000 in
theorem walk_ModelFirst (A : Option Addr) (c : Nat) (es : List Ev) (m : Int) (w : World) (hc : es.length ≤ c) (hr : RdEv w w.heap.size A es) (_lo : -9223372036854775808 ≤ m) (_hi : m ≤ 9223372036854775807) :
    Calls Try.prog 5 #[.slice A es.length c, .int .i64 m] w (TrueRes' w) := by
  by_cases h : es.length ≤ 60 ∧ 0 ≤ m ∧ m ≤ es.length
  · obtain ⟨h1, h2, h3⟩ := h
    obtain ⟨k, rfl⟩ := Int.eq_ofNat_of_zero_le h2
    exact first_any A c es k w hc hr h1 (by omega)
  · obtain ⟨n, hn⟩ : ∃ n, es.length = n := ⟨_, rfl⟩
    rw [hn] at h ⊢
    have hcase : (60 : Int) < n ∨ (¬ (60 : Int) < n ∧ m < 0) ∨ (¬ (60 : Int) < n ∧ ¬ m < 0 ∧ (n : Int) < m) := by omega
    clear hr hc hn h
    rcases hcase with hq | ⟨hq, hq2⟩ | ⟨hq, hq2, hq3⟩
    all_goals
      go_enter Try.func5, Try.ntmps5
      go_wp2_with fail
      refine (awake_any w).mono ?_
      rintro e w1 ⟨rfl, hb1⟩
      go_wp2_with fail
      go_ret
      exact ⟨rfl, hb1⟩
set_option maxRecDepth 100000 in
set_option maxHeartbeats 3200000 in
theorem lostlaw_any (A : Option Addr) (c : Nat) (es : List Ev) (w : World) (hr : RdEv w w.heap.size A es) (hl : es.length ≤ 60) :
    Calls Try.prog 4 #[.slice A es.length c] w (TrueRes' w) := by
  have HRD := Lib.hid hr
  obtain ⟨n, hn⟩ : ∃ n, n = es.length := ⟨_, rfl⟩
  have HN := Lib.hid hn
  rw [← hn] at hl ⊢
  have i1 : ¬ (60 : Int) < n := by omega
  have HZ := qZ
  clear hr hn
  go_enter Try.func4, Try.ntmps4
  go_wp2_with fail
  refine (awake_any w).mono ?_
  rintro e w1 ⟨rfl, HB⟩
  have r1 := (HRD.out.keep HB).more HB.size
  have CC := check_any A c es w1 r1 (by rw [← HN.out]; omega)
  rw [← HN.out] at CC
  have CC := Lib.hid CC
  clear r1
  go_wp2_with fail
  refine CC.out.mono ?_
  rintro e w2 ⟨⟨r, rfl, hv⟩, hb⟩
  replace HB := HB.trans (hb.mono HB.size)
  clear hb CC
  rcases hv with ⟨i, hi, rfl, -, -⟩ | ⟨rfl, hall⟩
  · rw [← HN.out] at hi
    have t0 : ((i : Int) != -1) = true := by rw [bne_iff_ne]; omega
    have t1 : (0 : Int) ≤ (i : Int) := by omega
    have t2 : (i : Int) < n := by omega
    go_wp2_with fail
    go_ret
    exact ⟨rfl, HB⟩
  · have HALL := Lib.hid hall
    have hq5 : Below w2.heap.size w2 (w2.alloc (.cells (qC (.slice none 0 0) 0 (.slice none 0 0) 0) 31)) := (by repeat (first | with_reducible exact Below.refl _ _ | with_reducible assumption | refine Below.drew ?_ | refine below_drewN ?_ | refine Below.alloc ?_ (by first | omega | (simp; done) | (simp; omega)) _ | refine below_setRow ?_ (by omega) _ | refine Below.setCell ?_ (by first | omega | (simp; done) | (simp; omega)) _))
    have hwz := HB.size
    have RQ : RowIs (w2.alloc (.cells (qC (.slice none 0 0) 0 (.slice none 0 0) 0) 31)) w2.heap.size (qC (.slice none 0 0) 0 (.slice none 0 0) 0) := RowIs.new _ _ _
    replace HB := HB.trans (hq5.mono HB.size)
    have hq0 := Qs.new RQ HB.size
    clear hall RQ hq5
    go_wp2_with fail
    go_loopw [6, 7] (fun i _ wr => ∃ k : Nat, i = .int .i64 k ∧ k ≤ n ∧ Qs wr w2.heap.size w.heap.size (stK es k) ∧ Below w.heap.size w wr) (fun i _ _ => n - (intOf i).toNat)
    case atStart => exact ⟨0, rfl, by omega, hq0, HB⟩
    case round =>
      clear hq0 HB
      obtain ⟨k, rfl, hk, hs, HB⟩ := hrel
      by_cases hlt : k < n
      · have hlt' : k < es.length := by rw [← HN.out]; exact hlt
        obtain ⟨g, o, rfl, hg, hel⟩ := (HRD.out.keep HB) (by omega)
        obtain ⟨v, hat, hbv⟩ := hel k hlt'
        have hL := ev_load hat
        obtain ⟨hq1, hq2⟩ := hs.lt
        have hbs := hbv.bs hq1
        obtain ⟨hl1, hl2⟩ := stK_len es k
        have cc := see_any w2.heap.size w.heap.size (nthE es k).d (nthE es k).who (nthE es k).code v (nthE es k).b (stK es k) wr hs hbs (by omega) (by omega)
        have hnx : (seeP (nthE es k).d (nthE es k).who (nthE es k).code (nthE es k).b (stK es k)).2 = stK es (k + 1) := rfl
        have hok : (seeP (nthE es k).d (nthE es k).who (nthE es k).code (nthE es k).b (stK es k)).1 = true := HALL.out k hlt'
        unfold SeeRes at cc
        rw [hnx, hok] at cc
        have CC := Lib.hid cc
        have hk0 : (0 : Int) ≤ (k : Int) := by omega
        have hk1 : (k : Int) < n := by omega
        clear hnx hok cc hs hbs hbv hat hel
        go_wp2_with fail
        refine CC.out.mono ?_
        rintro e w6 ⟨rfl, hs6, hu6⟩
        go_wp2_with fail
        exact ⟨⟨k + 1, by go_num, by omega, hs6, HB.trans (hu6.below hwz)⟩, by simp [intOf]; omega⟩
      · have ek : k = n := by omega
        subst ek
        obtain ⟨hl1, hl2⟩ := stK_len es k
        have CC := Lib.hid (left_any w2.heap.size w.heap.size 0 _ _ wr hs (.inl ⟨rfl, rfl⟩) (by omega))
        go_wp2_with fail
        refine CC.out.mono ?_
        rintro e w7 ⟨v7, rfl, own7, hb⟩
        have hz7 := HB.size
        replace HB := HB.trans (hb.mono HB.size)
        replace hs := hs.step hb
        have CC := Lib.hid (left_any w2.heap.size w.heap.size 1 _ _ w7 hs (.inr ⟨rfl, rfl⟩) (by omega))
        replace own7 := own7.mono hz7
        clear hb hs
        go_wp2_with fail
        refine CC.out.mono ?_
        rintro e w8 ⟨v8, rfl, own8, hb⟩
        replace HB := HB.trans (hb.mono HB.size)
        replace own7 := own7.step hb
        have hb8 := own8.bsl (by omega)
        have hz8 := HB.size
        obtain ⟨A7, c7, e7, -⟩ := own7.slice
        obtain ⟨A8, c8, e8, -⟩ := own8.slice
        have hsum := lost_all es k (by rw [HN.out]; exact HALL.out)
        obtain ⟨l1, hl1'⟩ : ∃ l, l = (stK es k).1 := ⟨_, rfl⟩
        obtain ⟨l2, hl2'⟩ : ∃ l, l = (stK es k).2 := ⟨_, rfl⟩
        rw [← hl1'] at hl1 own7 e7
        rw [← hl2'] at hl2 hb8 e8
        have hlost : (lostK es k).1 ++ (lostK es k).2 = l1 ++ l2 := by rw [hsum, hl1', hl2']
        obtain ⟨L, hL⟩ : ∃ L, L = l1 ++ l2 := ⟨_, rfl⟩
        rw [← hL] at hlost
        have HL := Lib.hid hL
        have hLl : L.length ≤ 200 := by rw [hL, List.length_append]; omega
        have HLOST := Lib.hid hlost
        subst e7; subst e8
        clear hb own8 hl1' hl2' hsum hlost CC hL
        go_wp2_with (at_builtin; refine wpList_appendL rfl (.tmp 47) (.tmp 49) rfl (N := L.length) rfl own7 rfl hb8 (by rw [HL.out, List.length_append]) (by omega) hz8 ?_; intro A9 c9 w9 own9 gr9 ob9; rw [← HL.out] at own9)
        have hb9 : Below w.heap.size w w9 := by
          obtain ⟨vs, h1, -⟩ := own7
          exact HB.trans (h1.below gr9 hz8)
        have r9 := (HRD.out.keep hb9).more hb9.size
        have CC := lost_any A c es w9 r9 (by rw [← HN.out]; omega)
        rw [← HN.out, HLOST.out] at CC
        have CC := Lib.hid CC
        have h9 := own9.bsl (by omega)
        have hz9 := hb9.size
        clear r9 own9 own7 gr9 ob9 hb8 HB hz8 hz7
        go_wp2_with fail
        refine CC.out.mono ?_
        rintro e w10 ⟨v10, rfl, own10, hb⟩
        have hbA := hb9.trans (hb.mono hz9)
        replace h9 := h9.step hb
        have h10 := own10.bsl (by omega)
        have CC := lists_bs _ _ _ _ w10 h10 h9
        rw [decide_eq_true rfl] at CC
        have CC := Lib.hid CC
        obtain ⟨A10, c10, e10, -⟩ := own10.slice
        subst e10
        clear hb own10 h9 h10 hb9
        go_wp2_with fail
        refine CC.out.mono ?_
        rintro e w11 ⟨rfl, hb⟩
        go_wp2_with fail
        go_ret
        exact ⟨rfl, hbA.trans (hb.mono hbA.size)⟩
theorem walk_ModelLost (A : Option Addr) (c : Nat) (es : List Ev) (w : World) (_hc : es.length ≤ c) (hr : RdEv w w.heap.size A es) :
    Calls Try.prog 4 #[.slice A es.length c] w (TrueRes' w) := by
  by_cases h : es.length ≤ 60
  · exact lostlaw_any A c es w hr h
  · obtain ⟨n, hn⟩ : ∃ n, es.length = n := ⟨_, rfl⟩
    rw [hn] at h ⊢
    have hq : (60 : Int) < n := by omega
    clear hr hn h
    go_enter Try.func4, Try.ntmps4
    go_wp2_with fail
    refine (awake_any w).mono ?_
    rintro e w1 ⟨rfl, hb1⟩
    go_wp2_with fail
    go_ret
    exact ⟨rfl, hb1⟩
end Go.Proofs.Ytlfplikkifjnfaa
