/- Slices of keys: own ones that grow, ones that are read; two of them held against each other. | Layer 13: some draws at once, and a jump: the program's and the document's. Printed by gen_some.py. | A struct or a slice literal of parts that are rows: what it holds; sources and lists of keys made so. | Layer 13: the chapter's examples. -/
import Derived.Test.YtopmdbmnlflpgaaDoorDrw
import Derived.Test.YtopmdbmnlflpgaaDoorLexS
import Derived.Test.YtopmdbmnlflpgaaDoorPart2
namespace Go.Proofs.YtopmdbmnlflpgaaDoor
section
open Go.RowKit
theorem xbslK (ev : Operand → Value) (d : Option Tmp) (n : Nat) (ps : Array (Nat × Operand)) (ty : TypeId) (p : String) (af : Array Edge) (g : Option (Nat × Bool)) :
    execOp ev ⟨d, .buildSlice 88 n ps, ty, p, af, g⟩ = bsliceK 88 n (ps.map fun x => (x.1, ev x.2)) := exec_bsliceK ev d _ n ps ty p af g
theorem bslK1 (cs : Array Value) (hc : cs.size = 32) (w : World) : (bsliceK 88 1 #[(0, .agg cs)]).run Tryd.prog w = .ok (.value (.slice (some ⟨w.heap.size, 0, none⟩) 1 1)) (w.alloc (.cells cs 33)) :=
  run_bsliceK1 Tryd.underlying88 (by kernel_rfl) (by omega) (by omega) cs hc w
def flatK (ks : List (List UInt8)) : List Value := ks.flatMap u8v
theorem flatK_length (ks : List (List UInt8)) (h : ∀ k ∈ ks, k.length = 32) : (flatK ks).length = ks.length * 32 := by
  induction ks with
  | nil => rfl
  | cons a r ih =>
    rw [flatK, List.flatMap_cons, List.length_append, u8v_length, h a (by simp), ← flatK, ih (fun k hk => h k (by simp [hk])), List.length_cons]; omega
theorem flatK_app (ks : List (List UInt8)) (K : List UInt8) : flatK (ks ++ [K]) = flatK ks ++ u8v K := by simp [flatK]
theorem flatK_get : ∀ (ks : List (List UInt8)) (_ : ∀ k ∈ ks, k.length = 32) (i : Nat), i < ks.length → ∀ j v, (u8v (nthL ks i))[j]? = some v → (flatK ks)[i * 32 + j]? = some v
  | [], _, i, hi, _, _, _ => by simp at hi
  | a :: r, h, i, hi, j, v, hv => by
    have ha := h a (by simp)
    cases i with
    | zero =>
      rw [nthL_def] at hv
      have hv' : (u8v a)[j]? = some v := by simpa using hv
      have hj : j < (u8v a).length := (List.getElem?_eq_some_iff.1 hv').1
      rw [flatK, List.flatMap_cons, Nat.zero_mul, Nat.zero_add, List.getElem?_append_left hj]; exact hv'
    | succ i =>
      have hv' : (u8v (nthL r i))[j]? = some v := by
        rw [nthL_def] at hv ⊢; simpa using hv
      have := flatK_get r (fun k hk => h k (by simp [hk])) i (by simpa using hi) j v hv'
      rw [flatK, List.flatMap_cons, List.getElem?_append_right (by rw [u8v_length]; omega), u8v_length, ← flatK, show (i + 1) * 32 + j - a.length = i * 32 + j by omega]
      exact this
/-- a slice that reads these keys -/
def KsL (w : World) (v : Value) (ks : List (List UInt8)) : Prop := ∃ A c, v = .slice A ks.length c ∧ ks.length ≤ c ∧ (0 < ks.length → ∃ g, A = some ⟨g, 0, none⟩ ∧ g < w.heap.size ∧ ∀ i, i < ks.length → w.rangeAt g (i * 32) (u8v (nthL ks i)))
theorem KsL.nil (w : World) : KsL w (.slice none 0 0) [] := ⟨none, 0, rfl, Nat.le_refl _, fun h => absurd h (by simp)⟩
theorem KsL.step {w w' : World} {v : Value} {ks : List (List UInt8)} (h : KsL w v ks) (hb : Below w.heap.size w w') : KsL w' v ks := by
  obtain ⟨A, c, h1, h2, h3⟩ := h
  refine ⟨A, c, h1, h2, fun h0 => ?_⟩
  obtain ⟨g, h4, h5, h6⟩ := h3 h0
  exact ⟨g, h4, Nat.lt_of_lt_of_le h5 hb.size, fun i hi j u hu => by rw [hb.cell (p := ⟨g, i * 32 + j, none⟩) h5]; exact h6 i hi j u hu⟩
theorem KsL.row {w : World} {g : Nat} {K : List UInt8} (h : RowIs w g (u8s K)) : KsL w (.slice (some ⟨g, 0, none⟩) 1 1) [K] := by
  refine ⟨_, 1, rfl, Nat.le_refl _, fun _ => ⟨g, rfl, h.lt, fun i hi j u hu => ?_⟩⟩
  obtain rfl : i = 0 := by simpa using hi
  have h' : RowIs w g (u8v K).toArray := by rw [← u8s_toArray]; exact h
  have hu' : (u8v K)[j]? = some u := by rw [nthL_def] at hu; simpa using hu
  have := h'.range 0 (u8v K).length j u (by rw [List.drop_zero, List.take_length]; exact hu')
  rw [Nat.zero_mul]; exact this
/-- three keys in one block -/
theorem KsL.row3 {w : World} {g : Nat} {a b c : List UInt8} (ha : a.length = 32) (hb : b.length = 32) (hc : c.length = 32) (h : RowIs w g (flatK [a, b, c]).toArray) : KsL w (.slice (some ⟨g, 0, none⟩) 3 3) [a, b, c] := by
  refine ⟨_, 3, rfl, Nat.le_refl _, fun _ => ⟨g, rfl, h.lt, fun i hi j u hu => ?_⟩⟩
  have hl : ∀ k ∈ [a, b, c], k.length = 32 := by simp [ha, hb, hc]
  have := flatK_get [a, b, c] hl i hi j u hu
  have h2 := h.range 0 (flatK [a, b, c]).length (i * 32 + j) u (by rw [List.drop_zero, List.take_length]; exact this)
  rw [Nat.zero_add] at h2; exact h2
/-- an own slice of keys -/
def OwnK (w : World) (base : Nat) (v : Value) (ks : List (List UInt8)) : Prop := w.ownsRow base 33 32 v ks.length (flatK ks)
theorem OwnK.nil (w : World) (base : Nat) : OwnK w base (.slice none 0 0) [] := ⟨by simp [flatK], .inl ⟨rfl, rfl⟩⟩
theorem OwnK.keep {w w' : World} {base : Nat} {v : Value} {ks : List (List UInt8)} (h : OwnK w base v ks) (hb : ∀ k, base ≤ k → k < w.heap.size → w'.heap[k]? = w.heap[k]?) : OwnK w' base v ks := by
  obtain ⟨h1, h2⟩ := h
  refine ⟨h1, ?_⟩
  rcases h2 with h2 | ⟨g, cap, cur, hv, hg, hh, r⟩
  · exact .inl h2
  · refine .inr ⟨g, cap, cur, hv, hg, ?_, r⟩
    have hlt := (Array.getElem?_eq_some_iff.1 hh).1
    rw [hb g hg hlt]; exact hh
theorem OwnK.step {w w' : World} {base : Nat} {v : Value} {ks : List (List UInt8)} (h : OwnK w base v ks) (hb : Below w.heap.size w w') : OwnK w' base v ks := h.keep fun k _ hk => hb.block k hk
theorem OwnK.upd2 {w w' : World} {base g s : Nat} {v : Value} {ks : List (List UInt8)} (h : OwnK w base v ks) (hu : Upd2 g s w w') (hg : g < base) (hs : s < base) : OwnK w' base v ks := h.keep fun k hk hl => hu.block k hl (by omega) (by omega)
theorem OwnK.slice {w : World} {base : Nat} {v : Value} {ks : List (List UInt8)} (h : OwnK w base v ks) : ∃ A c, v = .slice A ks.length c := by
  rcases h.2 with ⟨h1, h2⟩ | ⟨g, cap, cur, hv, _⟩
  · exact ⟨none, 0, by rw [h1, h2]⟩
  · exact ⟨_, _, hv⟩
theorem OwnK.more {w : World} {base base' : Nat} {v : Value} {ks : List (List UInt8)} (h : OwnK w base v ks) (hb : base' ≤ base) : OwnK w base' v ks := World.ownsRow.mono h hb
theorem OwnK.ks {w : World} {base : Nat} {v : Value} {ks : List (List UInt8)} (h : OwnK w base v ks) (hl : ∀ k ∈ ks, k.length = 32) : KsL w v ks := by
  rcases h.2 with ⟨h1, h2⟩ | ⟨g, cap, cur, hv, hg, hh, hnc, hcm, hcs, htk⟩
  · rw [h1]; rw [List.eq_nil_of_length_eq_zero h2]; exact KsL.nil w
  · refine ⟨_, cap, hv, hnc, fun h0 => ⟨g, rfl, (Array.getElem?_eq_some_iff.1 hh).1, fun i hi j u hu => ?_⟩⟩
    have := flatK_get ks hl i hi j u hu
    have hlt := (List.getElem?_eq_some_iff.1 this).1
    rw [flatK_length ks hl] at hlt
    rw [cell_of_row w g (i * 32 + j) cur 33 (0, 0) hh]
    rw [← htk, List.getElem?_take, if_pos hlt] at this
    rw [← Array.getElem?_toList]; exact this
theorem below_appendK {base : Nat} {w w' : World} {v : Value} {ks : List (List UInt8)} (hown : OwnK w base v ks) (hg : w.grownBy w' v.ownBlock) (hs : base ≤ w.heap.size) : Below base w w' := by
  refine (Below.refl base w).grown hg hs fun k hk => ?_
  rcases hown.2 with ⟨h1, _⟩ | ⟨g, cap, cur, hv, hbg, _⟩
  · rw [h1] at hk; simp [Value.ownBlock] at hk
  · rw [hv] at hk; simp [Value.ownBlock] at hk; omega
theorem keyInfo : (Tryd.prog.info? 33).map (fun i => (i.zero, i.size, i.bytes)) = some (some (.agg (Array.replicate 32 (.int .u8 0))), 32, 32) := by kernel_rfl
theorem keyInfo_parts : ∃ i z, Tryd.prog.info? 33 = some i ∧ i.zero = some z ∧ i.size = 32 ∧ i.bytes = 32 ∧ z.cells.size = 32 := by
  obtain ⟨i, hi, h⟩ := Option.map_eq_some_iff.1 keyInfo
  simp only [Prod.mk.injEq] at h
  exact ⟨i, _, hi, h.1, h.2.1, h.2.2, by kernel_rfl⟩
theorem wpList_appendK {w : World} {ops : Array Oper} {rest : List Oper} {o : Oper} {a : Act} {Q : Exit → Act → World → Prop} (hgd : o.guard = none) (s x : Operand)
    (ho : o.op = .call { callee := .builtin .append, args := #[s, x], argTypes := #[88, 88] })
    (base b : Nat) {v : Value} {ks : List (List UInt8)} {K : List UInt8} {N : Nat} (hs : a.eval s = v) (hown : OwnK w base v ks) (hx : a.eval x = .slice (some ⟨b, 0, none⟩) 1 1) (hr : RowIs w b (u8s K)) (hK : K.length = 32) (hN : ks.length + 1 = N)
    (hlen : N ≤ 1000000) (hbase : base ≤ w.heap.size)
    (h : ∀ A' c' w', OwnK w' base (.slice A' N c') (ks ++ [K]) → Below base w w' → wpList Tryd.prog ops Q rest (a.put o.dst (.slice A' N c')) w') : wpList Tryd.prog ops Q (o :: rest) a w := by
  obtain ⟨i, z, hi, hz, hs1, hb1, hzc⟩ := keyInfo_parts
  refine wpList_plain hgd fun C hC => ?_
  have hr' : RowIs w b (u8v K).toArray := by rw [← u8s_toArray]; exact hr
  obtain ⟨v', w', hrun, h2, h3, _⟩ := run_append_own (P := Tryd.prog) w base 88 o.type 33 i z 32 32 Tryd.underlying88 hi hz hs1 hb1 hzc (by omega) v ks.length (flatK ks) hown ⟨b, 0, none⟩ 1 1 (u8v K) (by rw [u8v_length]; omega)
    (fun j u hu => by
      have := hr'.range 0 (u8v K).length j u (by rw [List.drop_zero, List.take_length]; exact hu)
      rw [Addr.add_mid]; exact this)
    (u8v_one K) (by simp only [maxLen]; omega) (by omega) hbase
  have h4 : OwnK w' base v' (ks ++ [K]) := by
    unfold OwnK
    rw [flatK_app, List.length_append]; exact h2
  obtain ⟨A', c', rfl⟩ := h4.slice
  rw [List.length_append, List.length_singleton, hN] at h4
  unfold Oper.wp execOp
  simp only [ho, resolve, invoke, builtin, Sem.run_bind, Sem.run_pure, Result.andThen_ok, List.map_toArray, List.map_cons, List.map_nil, hs, hx, hrun, List.length_append, List.length_singleton, hN]
  exact hC _ _ (h A' c' w' h4 (below_appendK hown h3 hbase))
theorem key_load {w : World} {g o : Nat} {K : List UInt8} (h : w.rangeAt g o (u8v K)) (hK : K.length = 32) : (loadAgg 33 (.pointer (some ⟨g, o, none⟩))).run Tryd.prog w = .ok (.value (.agg (u8s K))) w := by
  have := run_loadAt_mid (P := Tryd.prog) w g o 33 (u8v K) _ h Tryd.underlying33 (by kernel_rfl) (by rw [u8v_length, hK]; kernel_rfl)
  unfold loadAgg
  simp only [Sem.run_bind, this, Result.andThen_ok, Sem.run_pure]
  rw [u8s_toArray]
def TwoR (g1 o1 g2 o2 : Nat) (K : List UInt8) (w : World) : Prop := w.rangeAt g1 o1 (u8v K) ∧ w.rangeAt g2 o2 (u8v K)
def BoolAt (b : Bool) (w : World) (e : Ending) (w' : World) : Prop := e = .returned (.bool b) ∧ Below w.heap.size w w'
set_option maxRecDepth 100000 in
theorem keys_same (va vb : Value) (ks : List (List UInt8)) (hl : ∀ k ∈ ks, k.length = 32) (hn6 : ks.length ≤ 1000000) (w : World) (ha : KsL w va ks) (hb : KsL w vb ks) :
    Calls Tryd.prog 56 #[va, vb] w (BoolAt true w) := by
  obtain ⟨A, c, rfl, hc, hA⟩ := ha
  obtain ⟨B, d, rfl, hd, hB⟩ := hb
  have HA := Lib.hid hA; have HB := Lib.hid hB
  clear hA hB
  obtain ⟨n, hn⟩ : ∃ n, n = ks.length := ⟨_, rfl⟩
  have HN := Lib.hid hn
  rw [← hn] at hc hd hn6 ⊢
  clear hn
  have hbn : ((n : Int) != (n : Int)) = false := by simp
  go_enter Tryd.func56, Tryd.ntmps56
  go_wp2_with fail
  go_loopw [5] (fun i wr => ∃ k m : Nat, k ≤ n ∧ i = .int .i64 k ∧ wr = w.drewN m) (fun i _ => n - (intOf i).toNat)
  case atStart => exact ⟨0, 0, Nat.zero_le _, rfl, rfl⟩
  case round =>
    obtain ⟨k, m, hk, rfl, rfl⟩ := hrel
    by_cases hlt : k < n
    · have hlt' : k < ks.length := by rw [← HN.out]; exact hlt
      obtain ⟨g1, rfl, hg1, hr1⟩ := HA.out (by omega)
      obtain ⟨g2, rfl, hg2, hr2⟩ := HB.out (by omega)
      have hS : TwoR g1 (k * 32) g2 (k * 32) (nthL ks k) (w.drewN m).drew := ⟨fun j v hv => hr1 k hlt' j v hv, fun j v hv => hr2 k hlt' j v hv⟩
      obtain ⟨K, hKe⟩ : ∃ K, K = nthL ks k := ⟨_, rfl⟩
      have hKl : K.length = 32 := by rw [hKe, nthL_def]; exact hl _ (by rw [List.getD_eq_getElem?_getD, List.getElem?_eq_getElem hlt']; exact List.getElem_mem hlt')
      rw [← hKe] at hS
      have hk0 : (0 : Int) ≤ (k : Int) := by omega
      have hk1 : (k : Int) < (n : Int) := by omega
      clear hKe hr1 hr2
      go_wp2_with fail
      refine wp_region_lexS [] [3, 7] (TwoR g1 (k * 32) g2 (k * 32) K) (by kernel_rfl) (by decide +kernel) hS (fun _ => ?_)
      (go_wp2_with (first | (refine wpLexS_nil ?_) | (refine wpLexS_pure rfl (fun _ _ => ?_); go_simp; refine ⟨_, fun w9 hw9 => (by have s1 := key_load hw9.1 hKl; have s2 := key_load hw9.2 hKl; go_simp; rfl), ?_⟩) | (refine wpLexS_pure0 rfl (fun _ _ => ?_); go_simp; try go_bits) | (refine wpLexS_read rfl (fun _ _ => ?_); go_simp; try go_bits) | (refine wpLexS_loud rfl (fun KL hKL => ?_))))
      exact ⟨⟨k + 1, m + 1, by omega, by go_num, rfl⟩, by simp [intOf]; omega⟩
    · have e : k = n := by omega
      subst e
      go_wp2_with fail
      go_ret
      exact ⟨rfl, below_drewN (Below.refl _ _)⟩
end
section
open Go.RowKit
attribute [local go_sem ↓] xbslK
attribute [local go_sem] bslK1
theorem MetB.below {w w' : World} {r B : Nat} {N : Int} (h : MetB w r N) (hb : Below B w w') (hr : r < B) : MetB w' r N := by obtain ⟨n, h0, h1, h2⟩ := h; exact ⟨n, h0, h1, RowIs.below h2 hb hr⟩
def NotEnv (g s : Nat) : Prop := 0 ≠ g ∧ 1 ≠ g ∧ 0 ≠ s ∧ 1 ≠ s
theorem ShaEnv.upd2 {w w' : World} {g s : Nat} (h : ShaEnv w) (hx : NotEnv g s) (hu : Upd2 g s w w') : ShaEnv w' := ⟨h.rounds.upd2 hu hx.1 hx.2.2.1, h.start.upd2 hu hx.2.1 hx.2.2.2⟩
@[irreducible] def drwK (key : List UInt8) (n : UInt64) (lab : List UInt8) : List UInt8 := derB key lab [(lowB n 8).reverse]
theorem drwK_def (key : List UInt8) (n : UInt64) (lab : List UInt8) : drwK key n lab = derB key lab [(lowB n 8).reverse] := by unfold drwK; rfl
theorem drwK_length (key : List UInt8) (n : UInt64) (lab : List UInt8) : (drwK key n lab).length = 32 := by rw [drwK_def, derB_length]
/-- the first k draws for these labels -/
def drwsK (key : List UInt8) (n : UInt64) (ls : List (List UInt8)) : Nat → List (List UInt8)
  | 0 => []
  | k + 1 => drwsK key n ls k ++ [drwK key (n + UInt64.ofNat k) (nthL ls k)]
theorem drwsK_length (key : List UInt8) (n : UInt64) (ls : List (List UInt8)) : ∀ k, (drwsK key n ls k).length = k
  | 0 => rfl
  | k + 1 => by rw [drwsK, List.length_append, drwsK_length key n ls k]; rfl
theorem drwsK_all (key : List UInt8) (n : UInt64) (ls : List (List UInt8)) : ∀ k, ∀ x ∈ drwsK key n ls k, x.length = 32
  | 0, x, h => by simp [drwsK] at h
  | k + 1, x, h => by
    rw [drwsK, List.mem_append] at h
    rcases h with h | h
    · exact drwsK_all key n ls k x h
    · rw [List.mem_singleton.1 h, drwK_length]
/-- labels in a row -/
def strs (ls : List (List UInt8)) : Array Value := (ls.map fun l => Value.string ⟨l.toArray⟩).toArray
theorem strs_at {w : World} {b : Nat} {ls : List (List UInt8)} (h : RowIs w b (strs ls)) (k : Nat) (hk : k < ls.length) : w.cell? ⟨b, k, none⟩ = some (.string ⟨(nthL ls k).toArray⟩) := by
  obtain ⟨t, ht⟩ := h.row.heap
  rw [h.has] at ht
  rw [cell_of_row _ _ k _ t (0, 0) ht, strs, nthL_def]
  simp [hk, List.getD]
theorem add_nat (n : UInt64) (k : Nat) : n + UInt64.ofNat k + 1 = n + UInt64.ofNat (k + 1) := by
  rw [UInt64.add_assoc]; congr 1
  apply UInt64.toNat_inj.1
  rw [UInt64.toNat_add, UInt64.toNat_ofNat', UInt64.toNat_ofNat']
  simp
theorem add_ne (n : UInt64) (k len : Nat) (hk : k < len) (h : n.toNat + len ≤ 18446744073709551615) : n + UInt64.ofNat k ≠ 18446744073709551615 := fun e => by
  have := congrArg UInt64.toNat e
  rw [UInt64.toNat_add, UInt64.toNat_ofNat'] at this
  have h2 : (18446744073709551615 : UInt64).toNat = 18446744073709551615 := rfl
  omega
theorem jump_lo (s : Nat) (key : List UInt8) (hkey : key.length = 32) (m n : UInt64) (h : n.toNat < m.toNat) (w : World) (hS : Src w s key m) :
    Calls Tryd.prog 54 #[.pointer (some ⟨s, 0, none⟩), .int .u64 (n64 n)] w fun e w' => e = .returned (.int .i64 70) ∧ w' = w := by
  have hn := hS.num hkey
  have hlt : (n64 n : Int) < n64 m := by rw [n64_def, n64_def]; omega
  go_enter Tryd.func54, Tryd.ntmps54
  go_wp2_with fail
  go_ret
  exact ⟨rfl, rfl⟩
theorem jump_ok (s : Nat) (key : List UInt8) (hkey : key.length = 32) (m n : UInt64) (h : ¬ n.toNat < m.toNat) (w : World) (hS : Src w s key m) :
    Calls Tryd.prog 54 #[.pointer (some ⟨s, 0, none⟩), .int .u64 (n64 n)] w fun e w' => e = .returned (.int .i64 0) ∧ Src w' s key n ∧ Upd s w w' := by
  have hn := hS.num hkey
  have hlt : ¬ (n64 n : Int) < n64 m := by rw [n64_def, n64_def]; omega
  have hfz := RowIs.fz hS 32
  go_enter Tryd.func54, Tryd.ntmps54
  go_wp2_with fail
  go_ret
  exact ⟨rfl, hS.put hkey n, (Upd.refl s w).put 32 _⟩
def SomeRes (g s : Nat) (N : Int) (key : List UInt8) (n : UInt64) (ks : List (List UInt8)) (w : World) (e : Ending) (w' : World) : Prop :=
  ∃ v, e = .returned (.tuple #[v, .int .i64 0]) ∧ OwnK w' w.heap.size v ks ∧ Src w' s key n ∧ MetB w' g N ∧ Upd2 g s w w'
set_option maxRecDepth 100000 in
theorem some_full (p : Value) (s : Nat) (key : List UInt8) (hkey : key.length = 32) (n : UInt64) (lb len : Nat) (hl : len ≤ 100) (h : ¬ n.toNat + len ≤ 18446744073709551615) (w : World) (hS : Src w s key n) :
    Calls Tryd.prog 52 #[.pointer (some ⟨s, 0, none⟩), p, .slice (some ⟨lb, 0, none⟩) len len] w fun e w' => e = .returned (.tuple #[.slice none 0 0, .int .i64 70]) ∧ w' = w := by
  have hn := hS.num hkey
  have hb := UInt64.toNat_lt n
  have h1 : IntKind.u64.wrap (18446744073709551615 - n64 n) = 18446744073709551615 - n64 n := by rw [n64_def, wrap_u64]; omega
  have h2 : (18446744073709551615 : Int) - n64 n < len := by rw [n64_def]; omega
  go_enter Tryd.func52, Tryd.ntmps52
  go_wp2_with fail
  refine bodyPost_ret (results_tmp2 rfl _ _ _) rfl ?_
  exact ⟨rfl, rfl⟩
set_option maxRecDepth 100000 in
set_option maxHeartbeats 3200000 in
theorem some_any (g s : Nat) (hgs : g ≠ s) (N : Int) (key : List UInt8) (hkey : key.length = 32) (n : UInt64) (lb : Nat) (hlg : lb ≠ g) (hls : lb ≠ s) (ls : List (List UInt8)) (hl : ls.length ≤ 100) (h : n.toNat + ls.length ≤ 18446744073709551615) (hle : ∀ k, k < ls.length → (nthL ls k).length ≤ 300) (w : World) (hm : MetB w g N) (he : ShaEnv w) (hx : NotEnv g s) (hS : Src w s key n) (hr : RowIs w lb (strs ls)) (hN : N ≤ 700000) :
    Calls Tryd.prog 52 #[.pointer (some ⟨s, 0, none⟩), .pointer (some ⟨g, 0, none⟩), .slice (some ⟨lb, 0, none⟩) ls.length ls.length] w (SomeRes g s (N + 4 * ls.length) key (n + UInt64.ofNat ls.length) (drwsK key n ls ls.length) w) := by
  have hn := hS.num hkey
  have hb := UInt64.toNat_lt n
  have h1 : IntKind.u64.wrap (18446744073709551615 - n64 n) = 18446744073709551615 - n64 n := by rw [n64_def, wrap_u64]; omega
  obtain ⟨len, hlen⟩ : ∃ len, len = ls.length := ⟨_, rfl⟩
  have HL := Lib.hid hlen
  have HLE := Lib.hid hle
  rw [← hlen] at hl h ⊢
  have h2 : ¬ (18446744073709551615 : Int) - n64 n < len := by rw [n64_def]; omega
  have H := Lib.hid h
  have hsl := hS.no8'
  have hgl := hm.lt
  have hlbl := hr.lt
  have hlr := he.rounds.lt
  have hls2 := he.start.lt
  clear hlen hle h
  go_enter Tryd.func52, Tryd.ntmps52
  go_wp2_with fail
  go_loopw [8, 10, 11, 12, 24] (fun v _ _ _ i wr => ∃ k : Nat, i = .int .i64 k ∧ k ≤ len ∧ OwnK wr w.heap.size v (drwsK key n ls k) ∧ Src wr s key (n + UInt64.ofNat k) ∧ MetB wr g (N + 4 * k) ∧ ShaEnv wr ∧ RowIs wr lb (strs ls) ∧ Upd2 g s w wr) (fun _ _ _ _ i _ => len - (intOf i).toNat)
  case atStart => exact ⟨0, rfl, by omega, OwnK.nil _ _, by simpa using hS, hm.mono (by omega), he, hr, Upd2.of (Upd.refl g w)⟩
  case round =>
    clear hS hm hr hn h2 he
    obtain ⟨k, rfl, hk, own, hS, hm, he, hr, hU⟩ := hrel
    have hks := drwsK_length key n ls k
    obtain ⟨Av, cv, rfl⟩ := own.slice
    rw [hks] at own ⊢
    by_cases hlt : k < len
    · have hlt' : k < ls.length := by rw [← HL.out]; exact hlt
      have hc := strs_at hr k hlt'
      obtain ⟨lab, hlab⟩ : ∃ lab, lab = nthL ls k := ⟨_, rfl⟩
      have hll : lab.length ≤ 300 := by rw [hlab]; exact HLE.out k hlt'
      have hnn := add_ne n k len hlt H.out
      have hks1 : drwsK key n ls k ++ [drwK key (n + UInt64.ofNat k) lab] = drwsK key n ls (k + 1) := by rw [drwsK, hlab]
      have hadd := add_nat n k
      obtain ⟨K, hK⟩ : ∃ K, K = drwK key (n + UInt64.ofNat k) lab := ⟨_, rfl⟩
      have hKl : K.length = 32 := by rw [hK, drwK_length]
      have nn := next_any g s hgs (N + 4 * k) key hkey (n + UInt64.ofNat k) hnn lab hll wr hm he hS (by omega)
      rw [← drwK_def, ← hK] at nn
      rw [← hK] at hks1
      rw [← hlab] at hc
      obtain ⟨Lb, hLb⟩ : ∃ L : ByteArray, L = ⟨lab.toArray⟩ := ⟨_, rfl⟩
      rw [← hLb] at nn hc
      have NN := Lib.hid nn; have HK := Lib.hid hks1; have HA := Lib.hid hadd
      have hk0 : (0 : Int) ≤ (k : Int) := by omega
      have hk1 : (k : Int) < len := by omega
      have hsz := hU.size
      clear nn hks1 hadd hlab hK hLb hnn
      go_wp2_with fail
      refine NN.out.mono ?_
      rintro e w1 ⟨rfl, hS1, hm1, hU1⟩
      rw [HA.out] at hS1
      have own1 := own.upd2 hU1 hgl hsl
      replace hr := hr.upd2 hU1 hlg hls
      replace he := he.upd2 hx hU1
      replace hU := hU.trans hU1
      have hsz1 := hU.size
      clear own hS hm hU1 NN hc
      have hb1 : Below w1.heap.size w1 (w1.alloc (.cells (u8s K) 33)) := (by repeat (first | with_reducible exact Below.refl _ _ | with_reducible assumption | refine Below.drew ?_ | refine below_drewN ?_ | refine Below.alloc ?_ (by first | omega | (simp; done) | (simp; omega)) _ | refine below_setRow ?_ (by omega) _ | refine Below.setCell ?_ (by first | omega | (simp; done) | (simp; omega)) _))
      have hb2 : Below w1.heap.size w1 ((w1.alloc (.cells (u8s K) 33)).alloc (.cells (u8s K) 33)) := (by repeat (first | with_reducible exact Below.refl _ _ | with_reducible assumption | refine Below.drew ?_ | refine below_drewN ?_ | refine Below.alloc ?_ (by first | omega | (simp; done) | (simp; omega)) _ | refine below_setRow ?_ (by omega) _ | refine Below.setCell ?_ (by first | omega | (simp; done) | (simp; omega)) _))
      have rK : RowIs ((w1.alloc (.cells (u8s K) 33)).alloc (.cells (u8s K) 33)) (w1.heap.size + 1) (u8s K) := RowIs.new' (by simp)
      have own2 := own1.step hb2
      have hS2 : Src _ s key (n + UInt64.ofNat (k + 1)) := RowIs.step hS1 hb2
      have hm2 := hm1.step hb2
      have hr2 := hr.step hb2
      have he2 := he.step hb2
      have hU2 := hU.then hb2
      clear own1 hS1 hm1 hr hU hb1 hb2 he
      go_wp2_with (at_builtin; refine wpList_appendK (N := k + 1) rfl (.tmp 35) (.tmp 37) rfl w.heap.size (w1.heap.size + 1) rfl own2 rfl rK hKl (by rw [drwsK_length]) (by omega) (by simp; omega) ?_; rw [HK.out]; intro A3 c3 w3 own3 bel3)
      exact ⟨⟨k + 1, by go_num, by omega, own3, RowIs.below hS2 bel3 hsl, (hm2.below bel3 hgl).mono (by omega), ⟨he2.rounds.below bel3 hlr, he2.start.below bel3 hls2⟩, hr2.below bel3 hlbl, ⟨bel3.os.trans hU2.os, bel3.tape.trans hU2.tape, bel3.output.trans hU2.output, Nat.le_trans hU2.size bel3.size, fun q hq h1 h2 => (bel3.block q hq).trans (hU2.block q hq h1 h2)⟩⟩, by simp [intOf]; omega⟩
    · have ek : k = len := by omega
      subst ek
      go_wp2_with fail
      refine bodyPost_ret (results_tmp2 rfl _ _ _) rfl ?_
      exact ⟨_, rfl, own, hS, hm, hU⟩

theorem refjump_lo (s : Nat) (key : List UInt8) (hkey : key.length = 32) (m n : UInt64) (h : n.toNat < m.toNat) (w : World) (hS : Src w s key m) :
    Calls Tryd.prog 55 #[.pointer (some ⟨s, 0, none⟩), .int .u64 (n64 n)] w fun e w' => e = .returned (.int .i64 70) ∧ w' = w := by
  have hn := hS.num hkey
  have hlt : (n64 n : Int) < n64 m := by rw [n64_def, n64_def]; omega
  go_enter Tryd.func55, Tryd.ntmps55
  go_wp2_with fail
  go_ret
  exact ⟨rfl, rfl⟩
theorem refjump_ok (s : Nat) (key : List UInt8) (hkey : key.length = 32) (m n : UInt64) (h : ¬ n.toNat < m.toNat) (w : World) (hS : Src w s key m) :
    Calls Tryd.prog 55 #[.pointer (some ⟨s, 0, none⟩), .int .u64 (n64 n)] w fun e w' => e = .returned (.int .i64 0) ∧ Src w' s key n ∧ Upd s w w' := by
  have hn := hS.num hkey
  have hlt : ¬ (n64 n : Int) < n64 m := by rw [n64_def, n64_def]; omega
  have hfz := RowIs.fz hS 32
  go_enter Tryd.func55, Tryd.ntmps55
  go_wp2_with fail
  go_ret
  exact ⟨rfl, hS.put hkey n, (Upd.refl s w).put 32 _⟩
def refSomeRes (g s : Nat) (N : Int) (key : List UInt8) (n : UInt64) (ks : List (List UInt8)) (w : World) (e : Ending) (w' : World) : Prop :=
  ∃ v, e = .returned (.tuple #[v, .int .i64 0]) ∧ OwnK w' w.heap.size v ks ∧ Src w' s key n ∧ LogB w' g N ∧ Upd2 g s w w'
set_option maxRecDepth 100000 in
theorem refsome_full (p : Value) (s : Nat) (key : List UInt8) (hkey : key.length = 32) (n : UInt64) (lb len : Nat) (hl : len ≤ 100) (h : ¬ n.toNat + len ≤ 18446744073709551615) (w : World) (hS : Src w s key n) :
    Calls Tryd.prog 53 #[.pointer (some ⟨s, 0, none⟩), p, .slice (some ⟨lb, 0, none⟩) len len] w fun e w' => e = .returned (.tuple #[.slice none 0 0, .int .i64 70]) ∧ w' = w := by
  have hn := hS.num hkey
  have hb := UInt64.toNat_lt n
  have h1 : IntKind.u64.wrap (18446744073709551615 - n64 n) = 18446744073709551615 - n64 n := by rw [n64_def, wrap_u64]; omega
  have h2 : (18446744073709551615 : Int) - n64 n < len := by rw [n64_def]; omega
  go_enter Tryd.func53, Tryd.ntmps53
  go_wp2_with fail
  refine bodyPost_ret (results_tmp2 rfl _ _ _) rfl ?_
  exact ⟨rfl, rfl⟩
set_option maxRecDepth 100000 in
set_option maxHeartbeats 3200000 in
theorem refsome_any (g s : Nat) (hgs : g ≠ s) (N : Int) (key : List UInt8) (hkey : key.length = 32) (n : UInt64) (lb : Nat) (hlg : lb ≠ g) (hls : lb ≠ s) (ls : List (List UInt8)) (hl : ls.length ≤ 100) (h : n.toNat + ls.length ≤ 18446744073709551615) (hle : ∀ k, k < ls.length → (nthL ls k).length ≤ 300) (w : World) (hm : LogB w g N) (hS : Src w s key n) (hr : RowIs w lb (strs ls)) (hN : N ≤ 700000) :
    Calls Tryd.prog 53 #[.pointer (some ⟨s, 0, none⟩), .pointer (some ⟨g, 0, none⟩), .slice (some ⟨lb, 0, none⟩) ls.length ls.length] w (refSomeRes g s (N + 3 * ls.length) key (n + UInt64.ofNat ls.length) (drwsK key n ls ls.length) w) := by
  have hn := hS.num hkey
  have hb := UInt64.toNat_lt n
  have h1 : IntKind.u64.wrap (18446744073709551615 - n64 n) = 18446744073709551615 - n64 n := by rw [n64_def, wrap_u64]; omega
  obtain ⟨len, hlen⟩ : ∃ len, len = ls.length := ⟨_, rfl⟩
  have HL := Lib.hid hlen
  have HLE := Lib.hid hle
  rw [← hlen] at hl h ⊢
  have h2 : ¬ (18446744073709551615 : Int) - n64 n < len := by rw [n64_def]; omega
  have H := Lib.hid h
  have hsl := hS.no8'
  have hgl := hm.lt
  have hlbl := hr.lt
  
  
  clear hlen hle h
  go_enter Tryd.func53, Tryd.ntmps53
  go_wp2_with fail
  go_loopw [8, 9, 10, 11] (fun v i _ _ wr => ∃ k : Nat, i = .int .i64 k ∧ k ≤ len ∧ OwnK wr w.heap.size v (drwsK key n ls k) ∧ Src wr s key (n + UInt64.ofNat k) ∧ LogB wr g (N + 3 * k) ∧ RowIs wr lb (strs ls) ∧ Upd2 g s w wr) (fun _ i _ _ _ => len - (intOf i).toNat)
  case atStart => exact ⟨0, rfl, by omega, OwnK.nil _ _, by simpa using hS, hm.mono (by omega), hr, Upd2.of (Upd.refl g w)⟩
  case round =>
    clear hS hm hr hn h2
    obtain ⟨k, rfl, hk, own, hS, hm, hr, hU⟩ := hrel
    have hks := drwsK_length key n ls k
    obtain ⟨Av, cv, rfl⟩ := own.slice
    rw [hks] at own ⊢
    by_cases hlt : k < len
    · have hlt' : k < ls.length := by rw [← HL.out]; exact hlt
      have hc := strs_at hr k hlt'
      obtain ⟨lab, hlab⟩ : ∃ lab, lab = nthL ls k := ⟨_, rfl⟩
      have hll : lab.length ≤ 300 := by rw [hlab]; exact HLE.out k hlt'
      have hnn := add_ne n k len hlt H.out
      have hks1 : drwsK key n ls k ++ [drwK key (n + UInt64.ofNat k) lab] = drwsK key n ls (k + 1) := by rw [drwsK, hlab]
      have hadd := add_nat n k
      obtain ⟨K, hK⟩ : ∃ K, K = drwK key (n + UInt64.ofNat k) lab := ⟨_, rfl⟩
      have hKl : K.length = 32 := by rw [hK, drwK_length]
      have nn := refNext_any g s hgs (N + 3 * k) key hkey (n + UInt64.ofNat k) hnn lab hll wr hm hS (by omega)
      rw [← drwK_def, ← hK] at nn
      rw [← hK] at hks1
      rw [← hlab] at hc
      obtain ⟨Lb, hLb⟩ : ∃ L : ByteArray, L = ⟨lab.toArray⟩ := ⟨_, rfl⟩
      rw [← hLb] at nn hc
      have NN := Lib.hid nn; have HK := Lib.hid hks1; have HA := Lib.hid hadd
      have hk0 : (0 : Int) ≤ (k : Int) := by omega
      have hk1 : (k : Int) < len := by omega
      have hsz := hU.size
      clear nn hks1 hadd hlab hK hLb hnn
      go_wp2_with fail
      refine NN.out.mono ?_
      rintro e w1 ⟨rfl, hS1, hm1, hU1⟩
      rw [HA.out] at hS1
      have own1 := own.upd2 hU1 hgl hsl
      replace hr := hr.upd2 hU1 hlg hls
      
      replace hU := hU.trans hU1
      have hsz1 := hU.size
      clear own hS hm hU1 NN hc
      have hb1 : Below w1.heap.size w1 (w1.alloc (.cells (u8s K) 33)) := (by repeat (first | with_reducible exact Below.refl _ _ | with_reducible assumption | refine Below.drew ?_ | refine below_drewN ?_ | refine Below.alloc ?_ (by first | omega | (simp; done) | (simp; omega)) _ | refine below_setRow ?_ (by omega) _ | refine Below.setCell ?_ (by first | omega | (simp; done) | (simp; omega)) _))
      have hb2 : Below w1.heap.size w1 ((w1.alloc (.cells (u8s K) 33)).alloc (.cells (u8s K) 33)) := (by repeat (first | with_reducible exact Below.refl _ _ | with_reducible assumption | refine Below.drew ?_ | refine below_drewN ?_ | refine Below.alloc ?_ (by first | omega | (simp; done) | (simp; omega)) _ | refine below_setRow ?_ (by omega) _ | refine Below.setCell ?_ (by first | omega | (simp; done) | (simp; omega)) _))
      have rK : RowIs ((w1.alloc (.cells (u8s K) 33)).alloc (.cells (u8s K) 33)) (w1.heap.size + 1) (u8s K) := RowIs.new' (by simp)
      have own2 := own1.step hb2
      have hS2 : Src _ s key (n + UInt64.ofNat (k + 1)) := RowIs.step hS1 hb2
      have hm2 := hm1.step hb2
      have hr2 := hr.step hb2
      
      have hU2 := hU.then hb2
      clear own1 hS1 hm1 hr hU hb1 hb2
      go_wp2_with (at_builtin; refine wpList_appendK (N := k + 1) rfl (.tmp 37) (.tmp 39) rfl w.heap.size (w1.heap.size + 1) rfl own2 rfl rK hKl (by rw [drwsK_length]) (by omega) (by simp; omega) ?_; rw [HK.out]; intro A3 c3 w3 own3 bel3)
      exact ⟨⟨k + 1, by go_num, by omega, own3, RowIs.below hS2 bel3 hsl, (hm2.below bel3 hgl).mono (by omega), hr2.below bel3 hlbl, ⟨bel3.os.trans hU2.os, bel3.tape.trans hU2.tape, bel3.output.trans hU2.output, Nat.le_trans hU2.size bel3.size, fun q hq h1 h2 => (bel3.block q hq).trans (hU2.block q hq h1 h2)⟩⟩, by simp [intOf]; omega⟩
    · have ek : k = len := by omega
      subst ek
      go_wp2_with fail
      refine bodyPost_ret (results_tmp2 rfl _ _ _) rfl ?_
      exact ⟨_, rfl, own, hS, hm, hU⟩

end
section
open Go.RowKit
theorem fold_getO (off : Nat) : ∀ (l : List Value) (k i : Nat) (a : Array Value), ((l.zipIdx k).foldl (fun cs (p : Value × Nat) => cs.setIfInBounds (off + p.2) p.1) a)[i]? = if off + k ≤ i ∧ i < off + k + l.length ∧ i < a.size then l[i - (off + k)]? else a[i]?
  | [], k, i, a => by simp; omega
  | x :: l, k, i, a => by
    rw [List.zipIdx_cons, List.foldl_cons, fold_getO off l (k + 1) i]
    simp only [Array.size_setIfInBounds, List.length_cons]
    by_cases h1 : off + (k + 1) ≤ i ∧ i < off + (k + 1) + l.length ∧ i < a.size
    · rw [if_pos h1, if_pos (by omega), show i - (off + k) = (i - (off + (k + 1))) + 1 by omega]; simp
    · rw [if_neg h1]
      by_cases h2 : off + k = i
      · subst h2
        simp only [Array.getElem?_setIfInBounds]
        by_cases h3 : off + k < a.size
        · simp [h3]
        · simp [h3]
      · rw [if_neg (by omega)]
        simp [h2]
theorem fill_part {place : Nat → Option (Nat × Nat)} {s off i : Nat} (hp : place i = some (off, s)) (base : List Value) (v : Value) (cs : List Value) (hv : v.cells = cs.toArray) (hc : cs.length = s) (hb : off + s ≤ base.length) (rest : List (Nat × Value)) :
    Instr.fill place base.toArray ((i, v) :: rest) = Instr.fill place (spl base off cs).toArray rest := by
  subst hc
  have hcond : ¬ (cs.toArray.size ≠ cs.length ∨ off + cs.toArray.size > base.toArray.size) := by simp; omega
  conv => lhs; unfold Instr.fill
  simp only [hp, hv]
  rw [if_neg (by simpa using hcond)]
  congr 1
  apply Array.ext_getElem?
  intro j
  have e : cs.toArray.zipIdx.foldl (fun (cs : Array Value) (p : Value × Nat) => cs.setIfInBounds (off + p.2) p.1) base.toArray = (cs.zipIdx 0).foldl (fun cs (p : Value × Nat) => cs.setIfInBounds (off + p.2) p.1) base.toArray := by
    rw [← Array.foldl_toList, Array.toList_zipIdx]
  have h := fold_getO off cs 0 j base.toArray
  rw [← e] at h
  rw [h, List.getElem?_toArray, List.getElem?_toArray, spl, Nat.add_zero]
  simp only [List.size_toArray]
  by_cases h1 : j < off
  · rw [if_neg (by omega), List.getElem?_append_left (by simp; omega), List.getElem?_append_left (by simp; omega), List.getElem?_take, if_pos h1]
  · by_cases h2 : j < off + cs.length
    · rw [if_pos (by omega), List.getElem?_append_left (by simp; omega), List.getElem?_append_right (by simp; omega)]
      simp [show min off base.length = off by omega]
    · rw [if_neg (by omega), List.getElem?_append_right (by simp; omega), List.getElem?_drop]
      simp [show min off base.length = off by omega, show off + cs.length + (j - (off + cs.length)) = j by omega]
theorem srcBuilt (parts : List (Nat × Value)) : Tryd.prog.built 83 parts = Instr.fill (#[(0, 32), (32, 1)][·]?) (u8v (zeros 32) ++ [Value.int .u64 0]).toArray parts := by
  rw [u8v_def, zeros_def]
  kernel_rfl
theorem refSrcBuilt (parts : List (Nat × Value)) : Tryd.prog.built 85 parts = Instr.fill (#[(0, 32), (32, 1)][·]?) (u8v (zeros 32) ++ [Value.int .u64 0]).toArray parts := by
  rw [u8v_def, zeros_def]
  kernel_rfl
theorem fillSrc (key : List UInt8) (hkey : key.length = 32) : Instr.fill (#[(0, 32), (32, 1)][·]?) (u8v (zeros 32) ++ [Value.int .u64 0]).toArray [(0, .agg (u8s key))] = some (srcC key 0) := by
  rw [fill_part (s := 32) (off := 0) rfl _ (.agg (u8s key)) (u8v key) (by rw [u8s_toArray]; rfl) (by rw [u8v_length, hkey]) (by rw [List.length_append, u8v_length, zeros_length]; omega)]
  unfold Instr.fill
  rw [srcC_def, srcL, spl, List.take_zero, List.nil_append, Nat.zero_add, u8v_length, hkey, List.drop_append_of_le_length (by rw [u8v_length, zeros_length]; omega), List.drop_of_length_le (by rw [u8v_length, zeros_length]; omega), List.nil_append, n64_def]
  rfl
theorem fillSrc2 (key : List UInt8) (hkey : key.length = 32) (n : UInt64) : Instr.fill (#[(0, 32), (32, 1)][·]?) (u8v (zeros 32) ++ [Value.int .u64 0]).toArray [(0, .agg (u8s key)), (1, .int .u64 (n64 n))] = some (srcC key n) := by
  rw [fill_part (s := 32) (off := 0) rfl _ (.agg (u8s key)) (u8v key) (by rw [u8s_toArray]; rfl) (by rw [u8v_length, hkey]) (by rw [List.length_append, u8v_length, zeros_length]; omega)]
  have e : spl (u8v (zeros 32) ++ [Value.int .u64 0]) 0 (u8v key) = u8v key ++ [Value.int .u64 0] := by
    rw [spl, List.take_zero, List.nil_append, Nat.zero_add, u8v_length, hkey, List.drop_append_of_le_length (by rw [u8v_length, zeros_length]; omega), List.drop_of_length_le (by rw [u8v_length, zeros_length]; omega), List.nil_append]
  rw [e, fill_part (s := 1) (off := 32) rfl _ (.int .u64 (n64 n)) [.int .u64 (n64 n)] rfl rfl (by rw [List.length_append, u8v_length, hkey]; simp)]
  unfold Instr.fill
  rw [srcC_def, srcL, spl, List.take_append_of_le_length (by rw [u8v_length]; omega), List.take_of_length_le (by rw [u8v_length]; omega), List.drop_of_length_le (by rw [List.length_append, u8v_length, hkey]; simp), List.append_nil]
theorem srcBuild (key : List UInt8) (hkey : key.length = 32) (w : World) : (buildK 83 #[(0, .agg (u8s key))]).run Tryd.prog w = .ok (.value (.agg (srcC key 0))) w := run_buildK (by rw [srcBuilt]; exact fillSrc key hkey) w
theorem srcBuild2 (key : List UInt8) (hkey : key.length = 32) (n : UInt64) (w : World) : (buildK 83 #[(0, .agg (u8s key)), (1, .int .u64 (n64 n))]).run Tryd.prog w = .ok (.value (.agg (srcC key n))) w := run_buildK (by rw [srcBuilt]; exact fillSrc2 key hkey n) w
theorem refSrcBuild2 (key : List UInt8) (hkey : key.length = 32) (n : UInt64) (w : World) : (buildK 85 #[(0, .agg (u8s key)), (1, .int .u64 (n64 n))]).run Tryd.prog w = .ok (.value (.agg (srcC key n))) w := run_buildK (by rw [refSrcBuilt]; exact fillSrc2 key hkey n) w
theorem xsrcBuild (ev : Operand → Value) (d : Option Tmp) (ps : Array (Nat × Operand)) (ty : TypeId) (p : String) (af : Array Edge) (g : Option (Nat × Bool)) :
    execOp ev ⟨d, .build 83 ps, ty, p, af, g⟩ = buildK 83 (ps.map fun x => (x.1, ev x.2)) := exec_buildK ev d _ ps ty p af g
theorem xrefSrcBuild (ev : Operand → Value) (d : Option Tmp) (ps : Array (Nat × Operand)) (ty : TypeId) (p : String) (af : Array Edge) (g : Option (Nat × Bool)) :
    execOp ev ⟨d, .build 85 ps, ty, p, af, g⟩ = buildK 85 (ps.map fun x => (x.1, ev x.2)) := exec_buildK ev d _ ps ty p af g
set_option maxRecDepth 10000 in
theorem bslK3 (a b c : List UInt8) (ha : a.length = 32) (hb : b.length = 32) (hc : c.length = 32) (w : World) : (bsliceK 88 3 #[(0, .agg (u8s a)), (1, .agg (u8s b)), (2, .agg (u8s c))]).run Tryd.prog w = .ok (.value (.slice (some ⟨w.heap.size, 0, none⟩) 3 3)) (w.alloc (.cells (flatK [a, b, c]).toArray 33)) := by
  obtain ⟨i, z, hi, hz, hs1, hb1, hzc⟩ := keyInfo_parts
  obtain ⟨Z, hZ⟩ : ∃ Z : List Value, (Array.range (3 * i.size)).map (z.cells[· % z.cells.size]!) = Z.toArray := ⟨_, (Array.toArray_toList (xs := _)).symm⟩
  have hZl : Z.length = 96 := by
    have := congrArg Array.size hZ
    simp [hs1] at this; omega
  unfold bsliceK
  have := run_buildSlice (P := Tryd.prog) w 88 33 3 #[(0, .agg (u8s a)), (1, .agg (u8s b)), (2, .agg (u8s c))] (flatK [a, b, c]).toArray i z Tryd.underlying88 hi hz (by rw [hs1]; omega) (by rw [hs1]; omega) (by
    rw [hZ, hs1]
    rw [fill_part (s := 32) (off := 0) rfl _ (.agg (u8s a)) (u8v a) (by rw [u8s_toArray]; rfl) (by rw [u8v_length, ha]) (by omega)]
    rw [fill_part (s := 32) (off := 32) rfl _ (.agg (u8s b)) (u8v b) (by rw [u8s_toArray]; rfl) (by rw [u8v_length, hb]) (by rw [spl_length _ _ _ (by rw [u8v_length]; omega)]; omega)]
    rw [fill_part (s := 32) (off := 64) rfl _ (.agg (u8s c)) (u8v c) (by rw [u8s_toArray]; rfl) (by rw [u8v_length, hc]) (by rw [spl_length _ _ _ (by rw [u8v_length, spl_length _ _ _ (by rw [u8v_length]; omega)]; omega), spl_length _ _ _ (by rw [u8v_length]; omega)]; omega)]
    unfold Instr.fill
    congr 2
    have l1 : (u8v a).length = 32 := by rw [u8v_length, ha]
    have l2 : (u8v b).length = 32 := by rw [u8v_length, hb]
    have l3 : (u8v c).length = 32 := by rw [u8v_length, hc]
    have e1 : spl Z 0 (u8v a) = u8v a ++ Z.drop 32 := by rw [spl, List.take_zero, List.nil_append, Nat.zero_add, l1]
    have e2 : spl (u8v a ++ Z.drop 32) 32 (u8v b) = u8v a ++ u8v b ++ Z.drop 64 := by
      rw [spl, List.take_append_of_le_length (by omega), List.take_of_length_le (by omega), l2, List.drop_append, List.drop_of_length_le (by omega), List.nil_append, l1, List.drop_drop]
    have e3 : spl (u8v a ++ u8v b ++ Z.drop 64) 64 (u8v c) = u8v a ++ u8v b ++ u8v c := by
      have l4 : (u8v a ++ u8v b).length = 64 := by rw [List.length_append, l1, l2]
      rw [spl, List.take_append_of_le_length (by omega), List.take_of_length_le (by omega), l3, List.drop_append, List.drop_of_length_le (by omega), List.nil_append, l4, List.drop_drop, List.drop_of_length_le (by omega), List.append_nil]
    rw [e1, e2, e3, flatK, List.flatMap_cons, List.flatMap_cons, List.flatMap_cons, List.flatMap_nil, List.append_nil, List.append_assoc])
  simp only [Sem.run_bind, this, Result.andThen_ok, Sem.run_pure]
end
section
open Go.RowKit
attribute [local go_sem ↓] xsrcBuild
attribute [local go_sem] srcBuild
def key1 : List UInt8 := 1 :: List.replicate 31 0
theorem key1Build (w : World) : (buildK 33 #[(0, .int .u8 1)]).run Tryd.prog w = .ok (.value (.agg (u8s key1))) w := run_buildK (by rw [u8s_def, key1]; change _ = _; kernel_rfl) w
attribute [local go_sem] key1Build
theorem aw13 : drwK key1 0 [97] ≠ drwK key1 (0 + 1) [97] := by decide +kernel
set_option maxRecDepth 100000 in
set_option maxHeartbeats 1600000 in
theorem awake13_any (w : World) (he : ShaEnv w) : Calls Tryd.prog 49 #[] w (TrueRes' w) := by
  have hk1 : key1.length = 32 := rfl
  obtain ⟨key, hkey⟩ : ∃ key, key = key1 := ⟨_, rfl⟩
  have hne := aw13
  have hbuild := key1Build
  rw [← hkey] at hk1 hne
  simp only [← hkey] at hbuild
  obtain ⟨K1, hK1⟩ : ∃ K, K = drwK key 0 [97] := ⟨_, rfl⟩
  obtain ⟨K2, hK2⟩ : ∃ K, K = drwK key (0 + 1) [97] := ⟨_, rfl⟩
  have hl1 : K1.length = 32 := by rw [hK1, drwK_length]
  have hl2 : K2.length = 32 := by rw [hK2, drwK_length]
  rw [← hK1, ← hK2] at hne
  have n1 := fun g s hgs (w : World) h1 h2 h3 => next_any g s hgs 0 key hk1 0 (by decide) [97] (by simp) w h1 h2 h3 (by omega)
  have n2 := fun g s hgs (w : World) h1 h2 h3 => next_any g s hgs (0 + 4) key hk1 (0 + 1) (by decide) [97] (by simp) w h1 h2 h3 (by omega)
  unfold nextRes at n1 n2
  simp only [← drwK_def] at n1 n2
  rw [← hK1] at n1
  rw [← hK2] at n2
  have N1 := Lib.hid n1; have N2 := Lib.hid n2
  clear n1 n2 hK1 hK2 hkey
  have hr1 := he.rounds.lt
  have hr2 := he.start.lt
  go_enter Tryd.func49, Tryd.ntmps49
  go_wp2_with fail
  refine (new_any false _).mono ?_
  rintro e w1 ⟨g, rfl, hm0, hg, HB⟩
  have hm := MetB.new hm0
  have hgl := hm.lt
  have hsz0 := HB.size
  replace he := he.step HB
  clear hm0
  have hb1 : Below w1.heap.size w1 (w1.alloc (.cells (srcC key 0) 83)) := (by repeat (first | with_reducible exact Below.refl _ _ | with_reducible assumption | refine Below.drew ?_ | refine below_drewN ?_ | refine Below.alloc ?_ (by first | omega | (simp; done) | (simp; omega)) _ | refine below_setRow ?_ (by omega) _ | refine Below.setCell ?_ (by first | omega | (simp; done) | (simp; omega)) _))
  have hS : Src (w1.alloc (.cells (srcC key 0) 83)) w1.heap.size key 0 := RowIs.new _ _ _
  replace he := he.step hb1; replace hm := hm.step hb1
  replace HB := HB.trans (hb1.mono HB.size)
  have hsw := HB.size
  have hx : NotEnv g w1.heap.size := ⟨by omega, by omega, by omega, by omega⟩
  go_wp2_with fail
  refine (N1.out g _ (by omega) _ hm he hS).mono ?_
  rintro e w2 ⟨rfl, hS2, hm2, hU2⟩
  replace he := he.upd2 hx hU2
  replace HB := hU2.below HB hg (by omega) (by omega)
  have hsw2 := HB.size
  have R3 : RowIs (w2.alloc (.cells (u8s K1) 33)) w2.heap.size (u8s K1) := RowIs.new _ _ _
  have hsl2 := RowIs.lt hS2
  have hgl2 := hm2.lt
  have hb2 : Below w2.heap.size w2 (w2.alloc (.cells (u8s K1) 33)) := (by repeat (first | with_reducible exact Below.refl _ _ | with_reducible assumption | refine Below.drew ?_ | refine below_drewN ?_ | refine Below.alloc ?_ (by first | omega | (simp; done) | (simp; omega)) _ | refine below_setRow ?_ (by omega) _ | refine Below.setCell ?_ (by first | omega | (simp; done) | (simp; omega)) _))
  replace hS2 : Src _ _ key (0 + 1) := RowIs.step hS2 hb2
  replace he := he.step hb2; replace hm2 := hm2.step hb2
  replace HB := HB.trans (hb2.mono HB.size)
  clear hS hm hU2 hb1 hb2
  go_wp2_with fail
  refine (N2.out g _ (by omega) _ hm2 he hS2).mono ?_
  rintro e w3 ⟨rfl, hS3, hm3, hU3⟩
  replace HB := hU3.below HB hg (by omega) HB.size
  have hsw3 := HB.size
  replace R3 := R3.upd2 hU3 (by omega) (by omega)
  have R5 : RowIs (w3.alloc (.cells (u8s K2) 33)) w3.heap.size (u8s K2) := RowIs.new _ _ _
  have hb3 : Below w3.heap.size w3 (w3.alloc (.cells (u8s K2) 33)) := (by repeat (first | with_reducible exact Below.refl _ _ | with_reducible assumption | refine Below.drew ?_ | refine below_drewN ?_ | refine Below.alloc ?_ (by first | omega | (simp; done) | (simp; omega)) _ | refine below_setRow ?_ (by omega) _ | refine Below.setCell ?_ (by first | omega | (simp; done) | (simp; omega)) _))
  replace hS3 : Src _ _ key (0 + 1 + 1) := RowIs.step hS3 hb3
  replace R3 := R3.step hb3
  replace HB := HB.trans (hb3.mono HB.size)
  have hnum := hS3.num hk1
  rw [show n64 (0 + 1 + 1) = 2 by rw [n64_def]; rfl] at hnum
  have L3 := kload R3 hl1
  have L5 := kload R5 hl2
  have jl := jump_lo w1.heap.size key hk1 (0 + 1 + 1) 1 (by decide) _ hS3
  rw [show (n64 1 : Int) = 1 by rw [n64_def]; rfl] at jl
  clear hS2 hm2 hU3 hb3 he hm3
  go_wp2_with fail
  refine jl.mono ?_
  rintro e w4 ⟨rfl, rfl⟩
  go_wp2_with fail
  go_ret
  exact ⟨by simp [hne], HB⟩
end
end Go.Proofs.YtopmdbmnlflpgaaDoor
