/- Slices of keys: those that are read, at any place; own ones that grow; two of them held against each other. -/
import Derived.Test.YtifnpphkplogaaaUpd
import Derived.Test.YtifnpphkplogaaaOctBs
import Derived.Test.YtifnpphkplogaaaLexS
import Derived.Test.YtifnpphkplogaaaPart2
import Derived.Test.YtifnpphkplogaaaKeyT
import Derived.Test.YtifnpphkplogaaaEq
namespace Go.Proofs.Ytifnpphkplogaaa
open Go.RowKit
theorem u8v_is8 (l : List UInt8) (v : Value) (h : v ∈ u8v l) : ∃ i, v = .int .u8 i := by
  rw [u8v_def] at h
  obtain ⟨b, _, rfl⟩ := List.mem_map.1 h
  exact ⟨_, rfl⟩
theorem xbslK (ev : Operand → Value) (d : Option Tmp) (n : Nat) (ps : Array (Nat × Operand)) (ty : TypeId) (p : String) (af : Array Edge) (g : Option (Nat × Bool)) :
    execOp ev ⟨d, .buildSlice 41 n ps, ty, p, af, g⟩ = bsliceK 41 n (ps.map fun x => (x.1, ev x.2)) := exec_bsliceK ev d _ n ps ty p af g
theorem bslK1 (cs : Array Value) (hc : cs.size = 32) (w : World) : (bsliceK 41 1 #[(0, .agg cs)]).run Try.prog w = .ok (.value (.slice (some ⟨w.heap.size, 0, none⟩) 1 1)) (w.alloc (.cells cs 72)) :=
  run_bsliceK1 Try.underlying41 (by kernel_rfl) (by omega) (by omega) cs hc w
def flatK (ks : List (List UInt8)) : List Value := ks.flatMap u8v
theorem flatK_length (ks : List (List UInt8)) (h : ∀ k ∈ ks, k.length = 32) : (flatK ks).length = ks.length * 32 := by
  induction ks with
  | nil => rfl
  | cons a r ih =>
    rw [flatK, List.flatMap_cons, List.length_append, u8v_length, h a (by simp), ← flatK, ih (fun k hk => h k (by simp [hk])), List.length_cons]; omega
theorem flatK_app (ks : List (List UInt8)) (K : List UInt8) : flatK (ks ++ [K]) = flatK ks ++ u8v K := by simp [flatK]
theorem flatK_get : ∀ (ks : List (List UInt8)) (_ : ∀ k ∈ ks, k.length = 32) (i : Nat), i < ks.length → ∀ j v, (u8v (nthL ks i))[j]? = some v → (flatK ks)[i * 32 + j]? = some v
  | [], _, i, hi, _, _, _ => by simp at hi
  | a :: r, h, i, hi, j, v, hv => by
    have ha := h a (by simp)
    cases i with
    | zero =>
      rw [nthL_def] at hv
      have hv' : (u8v a)[j]? = some v := by simpa using hv
      have hj : j < (u8v a).length := (List.getElem?_eq_some_iff.1 hv').1
      rw [flatK, List.flatMap_cons, Nat.zero_mul, Nat.zero_add, List.getElem?_append_left hj]; exact hv'
    | succ i =>
      have hv' : (u8v (nthL r i))[j]? = some v := by
        rw [nthL_def] at hv ⊢; simpa using hv
      have := flatK_get r (fun k hk => h k (by simp [hk])) i (by simpa using hi) j v hv'
      rw [flatK, List.flatMap_cons, List.getElem?_append_right (by rw [u8v_length]; omega), u8v_length, ← flatK, show (i + 1) * 32 + j - a.length = i * 32 + j by omega]
      exact this
/-- a slice that reads these keys -/
def KsL (w : World) (v : Value) (ks : List (List UInt8)) : Prop := ∃ A c, v = .slice A ks.length c ∧ ks.length ≤ c ∧ (0 < ks.length → ∃ g o, A = some ⟨g, o, none⟩ ∧ g < w.heap.size ∧ ∀ i, i < ks.length → w.rangeAt g (o + i * 32) (u8v (nthL ks i)))
theorem KsL.nil (w : World) : KsL w (.slice none 0 0) [] := ⟨none, 0, rfl, Nat.le_refl _, fun h => absurd h (by simp)⟩
theorem KsL.step {w w' : World} {v : Value} {ks : List (List UInt8)} (h : KsL w v ks) (hb : Below w.heap.size w w') : KsL w' v ks := by
  obtain ⟨A, c, h1, h2, h3⟩ := h
  refine ⟨A, c, h1, h2, fun h0 => ?_⟩
  obtain ⟨g, o, h4, h5, h6⟩ := h3 h0
  exact ⟨g, o, h4, Nat.lt_of_lt_of_le h5 hb.size, fun i hi j u hu => by rw [hb.cell (p := ⟨g, o + i * 32 + j, none⟩) h5]; exact h6 i hi j u hu⟩
/-- keys in one block of their own -/
theorem KsL.rowN {w : World} {g n : Nat} {ks : List (List UInt8)} (hl : ∀ k ∈ ks, k.length = 32) (hn : ks.length = n) (h : RowIs w g (flatK ks).toArray) : KsL w (.slice (some ⟨g, 0, none⟩) n n) ks := by
  subst hn
  refine ⟨_, ks.length, rfl, Nat.le_refl _, fun _ => ⟨g, 0, rfl, h.lt, fun i hi j u hu => ?_⟩⟩
  have := flatK_get ks hl i hi j u hu
  have h2 := h.range 0 (flatK ks).length (i * 32 + j) u (by rw [List.drop_zero, List.take_length]; exact this)
  rw [Nat.zero_add] at h2
  rw [Nat.zero_add]; exact h2
theorem KsL.upd {w w' : World} {v : Value} {ks : List (List UInt8)} {g : Nat} (h : KsL w v ks) (hl : ∀ k ∈ ks, k.length = 32) (hu : Upd g w w') (hn : No8 w g) : KsL w' v ks := by
  obtain ⟨A, c, h1, h2, h3⟩ := h
  refine ⟨A, c, h1, h2, fun h0 => ?_⟩
  obtain ⟨b, o, h4, h5, h6⟩ := h3 h0
  have hk : (nthL ks 0).length = 32 := by
    rw [nthL_def]; exact hl _ (by rw [List.getD_eq_getElem?_getD, List.getElem?_eq_getElem h0]; exact List.getElem_mem h0)
  have hne : b ≠ g := by
    rintro rfl
    obtain ⟨u, hu'⟩ : ∃ u, (u8v (nthL ks 0))[0]? = some u := by
      rw [List.getElem?_eq_getElem (by rw [u8v_length]; omega)]; exact ⟨_, rfl⟩
    have h8 := u8v_is8 _ _ (List.mem_of_getElem? hu')
    obtain ⟨i8, rfl⟩ := h8
    exact hn _ _ (h6 0 h0 0 _ hu')
  exact ⟨b, o, h4, Nat.lt_of_lt_of_le h5 hu.size, fun i hi j u hu' => by rw [hu.cell (p := ⟨b, o + i * 32 + j, none⟩) h5 hne]; exact h6 i hi j u hu'⟩
/-- an own slice of keys -/
def OwnK (w : World) (base : Nat) (v : Value) (ks : List (List UInt8)) : Prop := w.ownsRow base 72 32 v ks.length (flatK ks)
theorem OwnK.nil (w : World) (base : Nat) : OwnK w base (.slice none 0 0) [] := ⟨by simp [flatK], .inl ⟨rfl, rfl⟩⟩
theorem OwnK.keep {w w' : World} {base : Nat} {v : Value} {ks : List (List UInt8)} (h : OwnK w base v ks) (hb : ∀ k, base ≤ k → k < w.heap.size → w'.heap[k]? = w.heap[k]?) : OwnK w' base v ks := by
  obtain ⟨h1, h2⟩ := h
  refine ⟨h1, ?_⟩
  rcases h2 with h2 | ⟨g, cap, cur, hv, hg, hh, r⟩
  · exact .inl h2
  · refine .inr ⟨g, cap, cur, hv, hg, ?_, r⟩
    have hlt := (Array.getElem?_eq_some_iff.1 hh).1
    rw [hb g hg hlt]; exact hh
theorem OwnK.step {w w' : World} {base : Nat} {v : Value} {ks : List (List UInt8)} (h : OwnK w base v ks) (hb : Below w.heap.size w w') : OwnK w' base v ks := h.keep fun k _ hk => hb.block k hk
theorem OwnK.slice {w : World} {base : Nat} {v : Value} {ks : List (List UInt8)} (h : OwnK w base v ks) : ∃ A c, v = .slice A ks.length c := by
  rcases h.2 with ⟨h1, h2⟩ | ⟨g, cap, cur, hv, _⟩
  · exact ⟨none, 0, by rw [h1, h2]⟩
  · exact ⟨_, _, hv⟩
theorem OwnK.more {w : World} {base base' : Nat} {v : Value} {ks : List (List UInt8)} (h : OwnK w base v ks) (hb : base' ≤ base) : OwnK w base' v ks := by
  refine ⟨h.1, ?_⟩
  rcases h.2 with h | ⟨g, cap, cur, hv, hg, r⟩
  · exact .inl h
  · exact .inr ⟨g, cap, cur, hv, by omega, r⟩
theorem OwnK.ks {w : World} {base : Nat} {v : Value} {ks : List (List UInt8)} (h : OwnK w base v ks) (hl : ∀ k ∈ ks, k.length = 32) : KsL w v ks := by
  rcases h.2 with ⟨h1, h2⟩ | ⟨g, cap, cur, hv, hg, hh, hnc, hcm, hcs, htk⟩
  · rw [h1]; rw [List.eq_nil_of_length_eq_zero h2]; exact KsL.nil w
  · refine ⟨_, cap, hv, hnc, fun h0 => ⟨g, 0, rfl, (Array.getElem?_eq_some_iff.1 hh).1, fun i hi j u hu => ?_⟩⟩
    have := flatK_get ks hl i hi j u hu
    have hlt := (List.getElem?_eq_some_iff.1 this).1
    rw [flatK_length ks hl] at hlt
    rw [Nat.zero_add]
    rw [cell_of_row w g (i * 32 + j) cur 72 (0, 0) hh]
    rw [← htk, List.getElem?_take, if_pos hlt] at this
    rw [← Array.getElem?_toList]; exact this
theorem OwnK.upd {w w' : World} {base g : Nat} {v : Value} {ks : List (List UInt8)} (h : OwnK w base v ks) (hu : Upd g w w') (hg : g < base) : OwnK w' base v ks := h.keep fun k hk hl => hu.block k hl (by omega)
theorem below_appendK {base : Nat} {w w' : World} {v : Value} {ks : List (List UInt8)} (hown : OwnK w base v ks) (hg : w.grownBy w' v.ownBlock) (hs : base ≤ w.heap.size) : Below base w w' := by
  refine (Below.refl base w).grown hg hs fun k hk => ?_
  rcases hown.2 with ⟨h1, _⟩ | ⟨g, cap, cur, hv, hbg, _⟩
  · rw [h1] at hk; simp [Value.ownBlock] at hk
  · rw [hv] at hk; simp [Value.ownBlock] at hk; omega
theorem keyInfo : (Try.prog.info? 72).map (fun i => (i.zero, i.size, i.bytes)) = some (some (.agg (Array.replicate 32 (.int .u8 0))), 32, 32) := by kernel_rfl
theorem keyInfo_parts : ∃ i z, Try.prog.info? 72 = some i ∧ i.zero = some z ∧ i.size = 32 ∧ i.bytes = 32 ∧ z.cells.size = 32 := by
  obtain ⟨i, hi, h⟩ := Option.map_eq_some_iff.1 keyInfo
  simp only [Prod.mk.injEq] at h
  exact ⟨i, _, hi, h.1, h.2.1, h.2.2, by kernel_rfl⟩
theorem wpList_appendK {w : World} {ops : Array Oper} {rest : List Oper} {o : Oper} {a : Act} {Q : Exit → Act → World → Prop} (hgd : o.guard = none) (s x : Operand)
    (ho : o.op = .call { callee := .builtin .append, args := #[s, x], argTypes := #[41, 41] })
    (base b : Nat) {v : Value} {ks : List (List UInt8)} {K : List UInt8} {N : Nat} (hs : a.eval s = v) (hown : OwnK w base v ks) (hx : a.eval x = .slice (some ⟨b, 0, none⟩) 1 1) (hr : RowIs w b (u8s K)) (hK : K.length = 32) (hN : ks.length + 1 = N)
    (hlen : N ≤ 1000000) (hbase : base ≤ w.heap.size)
    (h : ∀ A' c' w', OwnK w' base (.slice A' N c') (ks ++ [K]) → Below base w w' → wpList Try.prog ops Q rest (a.put o.dst (.slice A' N c')) w') : wpList Try.prog ops Q (o :: rest) a w := by
  obtain ⟨i, z, hi, hz, hs1, hb1, hzc⟩ := keyInfo_parts
  refine wpList_plain hgd fun C hC => ?_
  have hr' : RowIs w b (u8v K).toArray := by rw [← u8s_toArray]; exact hr
  obtain ⟨v', w', hrun, h2, h3, _⟩ := run_append_own (P := Try.prog) w base 41 o.type 72 i z 32 32 Try.underlying41 hi hz hs1 hb1 hzc (by omega) v ks.length (flatK ks) hown ⟨b, 0, none⟩ 1 1 (u8v K) (by rw [u8v_length]; omega)
    (fun j u hu => by
      have := hr'.range 0 (u8v K).length j u (by rw [List.drop_zero, List.take_length]; exact hu)
      rw [Addr.add_mid]; exact this)
    (u8v_one K) (by simp only [maxLen]; omega) (by omega) hbase
  have h4 : OwnK w' base v' (ks ++ [K]) := by
    unfold OwnK
    rw [flatK_app, List.length_append]; exact h2
  obtain ⟨A', c', rfl⟩ := h4.slice
  rw [List.length_append, List.length_singleton, hN] at h4
  unfold Oper.wp execOp
  simp only [ho, resolve, invoke, builtin, Sem.run_bind, Sem.run_pure, Result.andThen_ok, List.map_toArray, List.map_cons, List.map_nil, hs, hx, hrun, List.length_append, List.length_singleton, hN]
  exact hC _ _ (h A' c' w' h4 (below_appendK hown h3 hbase))
theorem key_load {w : World} {g o : Nat} {K : List UInt8} (h : w.rangeAt g o (u8v K)) (hK : K.length = 32) : (loadAgg 72 (.pointer (some ⟨g, o, none⟩))).run Try.prog w = .ok (.value (.agg (u8s K))) w := by
  have := run_loadAt_mid (P := Try.prog) w g o 72 (u8v K) _ h Try.underlying72 (by kernel_rfl) (by rw [u8v_length, hK]; kernel_rfl)
  unfold loadAgg
  simp only [Sem.run_bind, this, Result.andThen_ok, Sem.run_pure]
  rw [u8s_toArray]
def TwoR (g1 o1 g2 o2 : Nat) (K L : List UInt8) (w : World) : Prop := w.rangeAt g1 o1 (u8v K) ∧ w.rangeAt g2 o2 (u8v L)
theorem nthL_all {ks : List (List UInt8)} (hl : ∀ k ∈ ks, k.length = 32) {i : Nat} (hi : i < ks.length) : (nthL ks i).length = 32 := by
  rw [nthL_def]; exact hl _ (by rw [List.getD_eq_getElem?_getD, List.getElem?_eq_getElem hi]; exact List.getElem_mem hi)
theorem nthL_ext {ks ls : List (List UInt8)} (h : ks.length = ls.length) (he : ∀ i, i < ks.length → nthL ks i = nthL ls i) : ks = ls := by
  apply List.ext_getElem h
  intro i h1 h2
  have := he i h1
  rw [nthL_def, nthL_def, List.getD_eq_getElem?_getD, List.getD_eq_getElem?_getD, List.getElem?_eq_getElem h1, List.getElem?_eq_getElem h2] at this
  exact this
set_option maxRecDepth 100000 in
set_option maxHeartbeats 1600000 in
/-- two slices of keys held against each other -/
theorem keys_cmp (va vb : Value) (ks ls : List (List UInt8)) (hl : ∀ k ∈ ks, k.length = 32) (hl2 : ∀ k ∈ ls, k.length = 32) (hn6 : ks.length ≤ 1000000) (_hm6 : ls.length ≤ 1000000) (w : World) (ha : KsL w va ks) (hb : KsL w vb ls) :
    Calls Try.prog 39 #[va, vb] w (BoolRes w (decide (ks = ls))) := by
  obtain ⟨A, c, rfl, hc, hA⟩ := ha
  obtain ⟨B, d, rfl, hd, hB⟩ := hb
  have HA := Lib.hid hA; have HB := Lib.hid hB
  clear hA hB
  by_cases hlen : ks.length = ls.length
  · obtain ⟨n, hn⟩ : ∃ n, n = ks.length := ⟨_, rfl⟩
    have HN := Lib.hid hn
    have HM := Lib.hid (hn.trans hlen)
    rw [← hlen, ← hn] at hd ⊢
    rw [← hn] at hc hn6
    clear hn hlen _hm6 hd
    have hbn : ((n : Int) != (n : Int)) = false := by simp
    go_enter Try.func39, Try.ntmps39
    go_wp2_with fail
    go_loopw [5] (fun i wr => ∃ k m : Nat, k ≤ n ∧ i = .int .i64 k ∧ wr = w.drewN m ∧ Hid (∀ j, j < k → nthL ks j = nthL ls j)) (fun i _ => n - (intOf i).toNat)
    case atStart => exact ⟨0, 0, Nat.zero_le _, rfl, rfl, Lib.hid fun j hj => absurd hj (by omega)⟩
    case round =>
      obtain ⟨k, m, hk, rfl, rfl, hsame⟩ := hrel
      by_cases hlt : k < n
      · have hlt' : k < ks.length := by rw [← HN.out]; exact hlt
        have hlt2 : k < ls.length := by rw [← HM.out]; exact hlt
        obtain ⟨g1, o1, rfl, hg1, hr1⟩ := HA.out (by omega)
        obtain ⟨g2, o2, rfl, hg2, hr2⟩ := HB.out (by omega)
        have hS : TwoR g1 (o1 + k * 32) g2 (o2 + k * 32) (nthL ks k) (nthL ls k) (w.drewN m).drew := ⟨fun j v hv => hr1 k hlt' j v hv, fun j v hv => hr2 k hlt2 j v hv⟩
        obtain ⟨K, hKe⟩ : ∃ K, K = nthL ks k := ⟨_, rfl⟩
        obtain ⟨L, hLe⟩ : ∃ L, L = nthL ls k := ⟨_, rfl⟩
        have hKl : K.length = 32 := by rw [hKe]; exact nthL_all hl hlt'
        have hLl : L.length = 32 := by rw [hLe]; exact nthL_all hl2 hlt2
        rw [← hKe, ← hLe] at hS
        have hk0 : (0 : Int) ≤ (k : Int) := by omega
        have hk1 : (k : Int) < (n : Int) := by omega
        have HKE := Lib.hid hKe; have HLE := Lib.hid hLe
        clear hKe hLe hr1 hr2
        by_cases he : K = L
        · subst he
          go_wp2_with fail
          refine wp_region_lexS [] [3, 7] (TwoR g1 (o1 + k * 32) g2 (o2 + k * 32) K K) (by kernel_rfl) (by decide +kernel) hS (fun _ => ?_)
          (go_wp2_with (first | (refine wpLexS_nil ?_) | (refine wpLexS_pure rfl (fun _ _ => ?_); go_simp; refine ⟨_, fun w9 hw9 => (by have s1 := key_load hw9.1 hKl; have s2 := key_load hw9.2 hLl; go_simp; rfl), ?_⟩) | (refine wpLexS_pure0 rfl (fun _ _ => ?_); go_simp; try go_bits) | (refine wpLexS_read rfl (fun _ _ => ?_); go_simp; try go_bits) | (refine wpLexS_loud rfl (fun KL hKL => ?_))))
          exact ⟨⟨k + 1, m + 1, by omega, by go_num, rfl, Lib.hid fun j hj => by
            by_cases e : j = k
            · subst e; rw [← HKE.out, ← HLE.out]
            · exact hsame.out j (by omega)⟩, by simp [intOf]; omega⟩
        · have hE : ∀ w, (Op.equalIn 10000 72 (.agg (u8s K)) (.agg (u8s L))).run Try.prog w = .ok false w := fun w => by
            have := run_equal8 Try.underlying72 (by kernel_rfl) Try.underlying5 (by kernel_rfl) K L hKl hLl w
            rw [this, decide_eq_false he]
          go_wp2_with fail
          refine wp_region_lexS [] [3, 7] (TwoR g1 (o1 + k * 32) g2 (o2 + k * 32) K L) (by kernel_rfl) (by decide +kernel) hS (fun _ => ?_)
          (go_wp2_with (first | (refine wpLexS_nil ?_) | (refine wpLexS_pure rfl (fun _ _ => ?_); go_simp; refine ⟨_, fun w9 hw9 => (by have s1 := key_load hw9.1 hKl; have s2 := key_load hw9.2 hLl; go_simp; rfl), ?_⟩) | (refine wpLexS_pure0 rfl (fun _ _ => ?_); go_simp; try go_bits) | (refine wpLexS_read rfl (fun _ _ => ?_); go_simp; try go_bits) | (refine wpLexS_loud rfl (fun KL hKL => ?_))))
          have hf : decide (ks = ls) = false := decide_eq_false fun e => he (by rw [HKE.out, HLE.out, e])
          go_ret
          exact ⟨by rw [hf]; rfl, (below_drewN (Below.refl _ _)).drew⟩
      · have e : k = n := by omega
        subst e
        have hT : decide (ks = ls) = true := decide_eq_true (nthL_ext (HN.out.symm.trans HM.out) fun i hi => hsame.out i (by rw [HN.out]; exact hi))
        go_wp2_with fail
        go_ret
        exact ⟨by rw [hT]; rfl, below_drewN (Below.refl _ _)⟩
  · have hbn : ((ks.length : Int) != (ls.length : Int)) = true := by simp; omega
    have hf : decide (ks = ls) = false := decide_eq_false fun e => hlen (by rw [e])
    go_enter Try.func39, Try.ntmps39
    go_wp2_with fail
    go_ret
    exact ⟨by rw [hf]; rfl, Below.refl _ _⟩
end Go.Proofs.Ytifnpphkplogaaa
