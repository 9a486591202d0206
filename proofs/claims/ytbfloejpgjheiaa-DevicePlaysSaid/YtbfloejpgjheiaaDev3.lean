/- Layer 11: a sector is written. -/
import Derived.Test.YtbfloejpgjheiaaDev2
import Derived.Test.YtbfloejpgjheiaaPart2
import Derived.Test.YtbfloejpgjheiaaLexT
namespace Go.Proofs.Ytbfloejpgjheiaa
open Go.RowKit
/-- a pending write's cells -/
@[irreducible] def wcell (i : Int) (b : List UInt8) : Array Value := (Value.int .i64 i :: u8v b).toArray
theorem wcell_def (i : Int) (b : List UInt8) : wcell i b = (Value.int .i64 i :: u8v b).toArray := by unfold wcell; rfl
theorem wcell_size (i : Int) (b : List UInt8) : (wcell i b).size = b.length + 1 := by rw [wcell_def]; simp [u8v_def]
theorem wcell_size_eq (i : Int) (b : List UInt8) (n : Nat) : ((wcell i b).size = n) = (b.length + 1 = n) := by rw [wcell_size]
theorem wcell_one (i : Int) (b : List UInt8) : (wcell i b).all (·.oneCell') = true := by
  rw [wcell_def]
  refine all_oneCell_toArray fun v hv => ?_
  rcases List.mem_cons.1 hv with rfl | hv
  · rfl
  · exact u8v_one b v hv
@[irreducible] def z256 : List UInt8 := List.replicate 256 0
theorem z256_def : z256 = List.replicate 256 0 := by unfold z256; rfl
theorem z256_length : z256.length = 256 := by rw [z256_def, List.length_replicate]
theorem rep8 (n : Nat) : Array.replicate n (Value.int .u8 0) = u8s (List.replicate n 0) := by
  rw [u8s_def]; simp [n8_def]
theorem wz_n (n : Nat) : #[Value.int .i64 0] ++ Array.replicate n (Value.int .u8 0) = (Value.int .i64 0 :: u8v (List.replicate n 0)).toArray := by
  rw [rep8, u8s_toArray]; simp
theorem wzero : #[Value.int .i64 0] ++ Array.replicate 256 (Value.int .u8 0) = wcell 0 z256 := by
  rw [wcell_def, z256_def]; exact wz_n 256
theorem Try.infoW : (Try.prog.info? 61).map (fun i => (i.zero, i.size, i.bytes)) = some (some (.agg (#[Value.int .i64 0] ++ Array.replicate 256 (Value.int .u8 0))), 257, 264) := by kernel_rfl
theorem zeroW (w : World) : (zeroValue 61).run Try.prog w = .ok (.agg (wcell 0 z256)) w := by
  obtain ⟨i, hi1, hz, hs, hb⟩ := info_parts Try.infoW
  rw [← wzero]
  simp [zeroValue, typeInfo, hi1, hz]
theorem wset (i j : Int) (b : List UInt8) : (wcell i b).setIfInBounds 0 (.int .i64 j) = wcell j b := by rw [wcell_def, wcell_def]; simp
theorem buildW (i : Int) (w : World) : (buildK 61 #[(0, .int .i64 i)]).run Try.prog w = .ok (.value (.agg (wcell i z256))) w :=
  run_buildK (by rw [← wset 0, ← wzero]; change _ = _; kernel_rfl) w
theorem xbuildW (ev : Operand → Value) (d : Option Tmp) (ps : Array (Nat × Operand)) (ty : TypeId) (p : String) (af : Array Edge) (g : Option (Nat × Bool)) :
    execOp ev ⟨d, .build 61 ps, ty, p, af, g⟩ = buildK 61 (ps.map fun x => (x.1, ev x.2)) := exec_buildK ev d _ ps ty p af g
theorem xloadW (ev : Operand → Value) (d : Option Tmp) (x : Operand) (ty : TypeId) (p : String) (af : Array Edge) (g : Option (Nat × Bool)) :
    execOp ev ⟨d, .load 61 x, ty, p, af, g⟩ = loadAgg 61 (ev x) := exec_loadAgg ev d _ x ty p af g
theorem xstoreW (ev : Operand → Value) (d : Option Tmp) (x y : Operand) (ty : TypeId) (p : String) (af : Array Edge) (g : Option (Nat × Bool)) :
    execOp ev ⟨d, .store 61 x y, ty, p, af, g⟩ = storeAgg 61 (ev x) (ev y) := exec_storeAgg ev d _ x y ty p af g
theorem xloadS (ev : Operand → Value) (d : Option Tmp) (x : Operand) (ty : TypeId) (p : String) (af : Array Edge) (g : Option (Nat × Bool)) :
    execOp ev ⟨d, .load 59 x, ty, p, af, g⟩ = loadAgg 59 (ev x) := exec_loadAgg ev d _ x ty p af g
theorem xstoreS (ev : Operand → Value) (d : Option Tmp) (x y : Operand) (ty : TypeId) (p : String) (af : Array Edge) (g : Option (Nat × Bool)) :
    execOp ev ⟨d, .store 59 x y, ty, p, af, g⟩ = storeAgg 59 (ev x) (ev y) := exec_storeAgg ev d _ x y ty p af g
theorem xbsW (ev : Operand → Value) (d : Option Tmp) (n : Nat) (ps : Array (Nat × Operand)) (ty : TypeId) (p : String) (af : Array Edge) (g : Option (Nat × Bool)) :
    execOp ev ⟨d, .buildSlice 55 n ps, ty, p, af, g⟩ = bsliceK 55 n (ps.map fun x => (x.1, ev x.2)) := exec_bsliceK ev d _ n ps ty p af g
theorem bsW (cs : Array Value) (hc : cs.size = 257) (w : World) : (bsliceK 55 1 #[(0, .agg cs)]).run Try.prog w = .ok (.value (.slice (some ⟨w.heap.size, 0, none⟩) 1 1)) (w.alloc (.cells cs 61)) :=
  run_bsliceK1 Try.underlying55 (by kernel_rfl) (by omega) (by omega) cs hc w
theorem storeW (w : World) (g : Nat) (cs : Array Value) (hr : (rowOf w g).size = 257) (hc : cs.size = 257) (h1 : cs.all (·.oneCell') = true) :
    (storeAgg 61 (.pointer (some ⟨g, 0, none⟩)) (.agg cs)).run Try.prog w = .ok .skip (w.setRow g cs) := run_storeAgg 257 _ (by omega) (by kernel_rfl) w g cs hr hc h1
theorem loadW (w : World) (g : Nat) (hr : (rowOf w g).size = 257) :
    (loadAgg 61 (.pointer (some ⟨g, 0, none⟩))).run Try.prog w = .ok (.value (.agg (rowOf w g))) w := run_loadAgg 257 _ (by omega) (by kernel_rfl) (by kernel_rfl) w g hr
attribute [local go_sem ↓] xbuildW xloadW xstoreW xloadS xstoreS xbsW
attribute [local go_sem] buildW zeroW storeW loadW wcell_size_eq wcell_one z256_length bsW
theorem wcell_any (x : Value) (z b : List UInt8) : spl (x :: u8v z) 1 (u8v b) = x :: u8v (b ++ z.drop b.length) := by
  unfold spl
  rw [u8v_length, show (1 + b.length) = b.length + 1 by omega]
  simp [u8v_def]
theorem wcell_full (i : Nat) (b : List UInt8) : spl (Value.int .i64 i :: u8v z256) 1 (u8v b) = Value.int .i64 i :: u8v (full b) := by
  rw [wcell_any, full_def, z256_def, List.drop_replicate]
theorem rd_src {w : World} {B : Nat} {A : Option Addr} {b : List UInt8} (h : Rd8 w B A b) : 0 < (u8v b).length → ∃ sg so, A = some ⟨sg, so, none⟩ ∧ ∀ j v, (u8v b)[j]? = some v → w.cell? ⟨sg, so + j, none⟩ = some v := fun h0 => by
  rw [u8v_length] at h0
  obtain ⟨g, o, hA, _, hcl⟩ := h h0
  refine ⟨g, o, hA, fun j v hv => ?_⟩
  have hj : j < b.length := by
    rcases Nat.lt_or_ge j b.length with h | h
    · exact h
    · rw [List.getElem?_eq_none (by rw [u8v_length]; exact h)] at hv; cases hv
  rw [hcl j hj, ← u8v_get b j hj]; exact hv
theorem spl_app {α : Type} (l m : List α) (o : Nat) (cs : List α) (h : o + cs.length ≤ l.length) : spl (l ++ m) o cs = spl l o cs ++ m := by
  unfold spl
  rw [List.take_append_of_le_length (by omega), List.drop_append_of_le_length h]; simp
theorem pcells_app (ps qs : List (Nat × List UInt8)) : pcells (ps ++ qs) = pcells ps ++ pcells qs := by unfold pcells; rw [List.flatMap_append]
theorem pcells_one (i : Nat) (F : List UInt8) : pcells [(i, F)] = (wcell i F).toList := by rw [wcell_def]; simp [pcells, pcell]
theorem Dev.push {W W4 : World} {L : DL} {d : Dv} {g3 cap i : Nat} {F : List UInt8} (h : Dev W L d) (hi : i < d.n) (hF : F.length = 256) (h4 : ∀ k, L.has k → L.vp.ownBlock ≠ some k → W4.heap[k]? = W.heap[k]?)
    (hown : OwnP W4 (.slice (some ⟨g3, 0, none⟩) (d.pend.length + 1) cap) (d.pend ++ [(i, F)])) (hne : g3 ≠ L.g ∧ g3 ≠ L.bs ∧ g3 ≠ L.bu) :
    Dev (W4.setCell ⟨L.g, 2, none⟩ (.slice (some ⟨g3, 0, none⟩) (d.pend.length + 1) cap)) { L with vp := .slice (some ⟨g3, 0, none⟩) (d.pend.length + 1) cap } { d with pend := d.pend ++ [(i, F)] } := by
  have keep : ∀ r cs, L.has r → L.vp.ownBlock ≠ some r → RowIs W r cs → RowIs W4 r cs := fun r cs hr hv hc => by
    have e := h4 r hr hv
    exact ⟨by unfold IsRow; rw [e]; exact hc.row, by unfold rowOf; rw [e]; exact hc.has⟩
  have n4 := h.n4
  have rg := keep L.g _ (.inl rfl) (fun e => (n4 _ e).1 rfl) h.row
  have rs := keep L.bs _ (.inr (.inl rfl)) (fun e => (n4 _ e).2.1 rfl) h.seen
  have ru := keep L.bu _ (.inr (.inr (.inl rfl))) (fun e => (n4 _ e).2.2 rfl) h.sure
  refine ⟨?_, rs.put_ne h.n1 _, ru.put_ne h.n2 _, hown.keep fun k hk => Below.heap_setCell _ _ _ _ (fun e => ?_), ⟨h.ok.n1, h.ok.n6, h.ok.seen, h.ok.sure, ?_, h.ok.lo, h.ok.hi⟩, h.hcs, h.hcu, h.n1, h.n2, h.n3, fun k hk => ?_⟩
  · have := rg.put 2 (.slice (some ⟨g3, 0, none⟩) (d.pend.length + 1) cap)
    simpa using this
  · have : g3 = k := by simpa [Value.ownBlock] using hk
    exact hne.1 (by rw [this]; exact e)
  · intro p hp
    rcases List.mem_append.1 hp with hp | hp
    · exact h.ok.pend p hp
    · rw [List.mem_singleton.1 hp]; exact ⟨hi, hF⟩
  · have : g3 = k := by simpa [Value.ownBlock] using hk
    rw [← this]; exact hne
/-- what the last statement of Write looks at -/
def PendS (g ow : Nat) (vp : Value) (cs : Array Value) (w : World) : Prop := w.cell? ⟨g, 2, none⟩ = some vp ∧ RowIs w ow cs
def WriteRes (L : DL) (d : Dv) (i : Int) (b : List UInt8) (w : World) (e : Ending) (w' : World) : Prop := e = .returned (.int .i64 (d.errW i b)) ∧ ∃ L', DevTo L L' (d.write i b) w w'
set_option maxRecDepth 100000 in
set_option maxHeartbeats 1600000 in
theorem write_goes (L : DL) (d : Dv) (i : Nat) (A : Option Addr) (c : Nat) (b : List UInt8) (w : World) (h : Dev w L d) (hc : b.length ≤ c) (hr : Rd8 w w.heap.size A b) (hx : 0 < b.length → ∀ g o, A = some ⟨g, o, none⟩ → ¬ L.has g) (hi : i < d.n) (hbl : b.length ≤ 256) (hd : d.tick.down = false) (hpl : d.pend.length ≤ 100000) :
    Calls Try.prog 14 #[.pointer (some ⟨L.g, 0, none⟩), .int .i64 i, .slice A b.length c] w (WriteRes L d i b w) := by
  obtain ⟨c0, c1, c2, c3, c4⟩ := h.row.cells5
  have i0 : ¬ (i : Int) < 0 := by omega
  have i1 : ¬ (d.n : Int) ≤ i := by omega
  have i2 : ¬ (256 : Int) < b.length := by omega
  have HDN := Lib.hid hd
  obtain ⟨m, hm⟩ : ∃ m, b.length = m := ⟨_, rfl⟩
  rw [hm] at i2 ⊢
  have HM := Lib.hid hm
  clear hm
  go_enter Try.func14, Try.ntmps14
  go_wp2_with fail
  refine (done_any L d _ h).mono ?_
  rintro e w1 ⟨rfl, hd1⟩
  rw [HDN.out]
  clear hd
  have hw1 := hd1.upx.size
  have R7 : RowIs (w1.alloc (.cells (wcell i z256) 61)) w1.heap.size (Value.int .i64 i :: u8v z256).toArray := by rw [← wcell_def]; exact RowIs.new _ _ _
  have hr1 : Rd8 (w1.alloc (.cells (wcell i z256) 61)) w1.heap.size A b := fun h0 => by
    obtain ⟨g, o, rfl, hg, hcl⟩ := hr h0
    refine ⟨g, o, rfl, by omega, fun j hj => ?_⟩
    rw [Below.cell (B := w1.heap.size) ((Below.refl _ _).alloc (Nat.le_refl _) _) (show g < w1.heap.size by omega), hd1.upx.cell (show g < w.heap.size from hg) (hx h0 g o rfl)]
    exact hcl j hj
  clear c0 c1 c2 c3 c4
  go_wp2_with (with_reducible refine copy_here ?_; (refine wpList_copyRow rfl (.tmp 31) (.tmp 32) _ _ rfl 5 Try.underlying29 (by kernel_rfl) _ _ _ _ _ _ _ rfl rfl _ (u8v b) R7 (by rw [u8v_length, HM.out]; omega) (rd_src hr1) (by simp only [List.length_cons, u8v_length, z256_length]; omega) (u8v_one b) ?_))
  obtain ⟨F, hF⟩ : ∃ F, F = full b := ⟨_, rfl⟩
  have hFl : F.length = 256 := by rw [hF, full_length b (by rw [HM.out]; omega)]
  obtain ⟨W, hW⟩ : ∃ W, W = (w1.alloc (.cells (wcell i z256) 61)).setRow w1.heap.size (spl (Value.int .i64 i :: u8v z256) 1 (u8v b)).toArray := ⟨_, rfl⟩
  have RW : RowIs W w1.heap.size (Value.int .i64 i :: u8v F).toArray := by
    rw [hW, hF, ← wcell_full i b]
    exact R7.set _
  have dW : DevTo L L d.tick w W := hd1.then (by rw [hW]; exact below_setRow ((Below.refl _ _).alloc (Nat.le_refl _) _) (Nat.le_refl _) _)
  have hsW : w1.heap.size < W.heap.size := RW.lt
  rw [← hW]
  have HF := Lib.hid hF
  clear hW R7 hr1 hF hd1
  obtain ⟨ow, how⟩ : ∃ ow, ow = w1.heap.size := ⟨_, rfl⟩
  rw [← how] at RW hsW hw1 ⊢
  clear how
  have c0 : W.cell? ⟨L.g, 0, none⟩ = some (.slice (some ⟨L.bs, 0, none⟩) d.n L.cs) := dW.dev.row.cells5.1
  have hl : (loadAgg 59 (.pointer (some ⟨ow, 1, none⟩))).run Try.prog W.drew = .ok (.value (.agg (u8s F))) W.drew := by
    have := run_loadAgg_mid (P := Try.prog) (o := 1) (n := 256) (ty := 59) Try.underlying59 rfl (by kernel_rfl) RW.drew (by simp only [List.length_cons, u8v_length, hFl]; omega)
    rw [this]
    simp only [List.drop_succ_cons, List.drop_zero]
    rw [List.take_of_length_le (by rw [u8v_length]; omega), ← u8s_toArray]
  obtain ⟨S1, hS1⟩ : ∃ S, S = spl (d.seen ++ L.js) (i * 256) F := ⟨_, rfl⟩
  have hsl := h.ok.seen
  have hst : (storeAgg 59 (.pointer (some ⟨L.bs, i * 256, none⟩)) (.agg (u8s F))).run Try.prog W.drew = .ok .skip (W.drew.setRow L.bs (u8s S1)) := by
    have r0 : RowIs W.drew L.bs (u8v (d.seen ++ L.js)).toArray := by rw [← u8s_toArray]; exact dW.dev.seen.drew
    have := run_storeAgg_mid (P := Try.prog) (ty := 59) (o := i * 256) (n := 256) (vs := u8v F) (by kernel_rfl) r0 (by rw [u8v_length, hFl]) (by rw [u8v_length, List.length_append, hsl]; omega) (u8v_one F)
    rw [u8v_spl, ← hS1, ← u8s_toArray] at this
    exact this
  have HS1 := Lib.hid hS1
  clear hS1
  go_wp2_with fail
  go_wp2_with (first | (refine wp_region_lex [] (by kernel_rfl) (by decide +kernel) ?_) | (refine wpLex_nil ?_) | (refine wpLex_pure rfl (fun _ _ => ?_); go_simp; try go_bits) | (refine wpLex_read rfl (fun _ _ => ?_); go_simp; try go_bits) | (refine wpLex_loud rfl (fun _ _ => ?_)))
  obtain ⟨W2, hW2⟩ : ∃ W2, W2 = (W.setRow L.bs (u8s S1)).drew := ⟨_, rfl⟩
  have how : ∀ k, L.has k → k ≠ ow := fun k hk e => by have := h.lt hk; omega
  have hbs : L.has L.bs := .inr (.inl rfl)
  have RW2 : RowIs W2 ow (wcell i F) := by rw [hW2, wcell_def]; exact (RW.set_ne (fun e => how _ hbs e.symm) _).drew
  have d2 : DevTo L L { d.tick with seen := spl d.seen (256 * i) F } w W2 := by
    refine ⟨rfl, ?_, ?_, fun _ h => .inl h⟩
    · have D := dW.dev
      have hne : ∀ r cs, r ≠ L.bs → RowIs W r cs → RowIs W2 r cs := fun r cs h1 h2 => by rw [hW2]; exact (h2.set_ne h1 _).drew
      refine ⟨hne _ _ (Ne.symm D.n1) D.row, ?_, hne _ _ (Ne.symm D.n3) D.sure, D.pend.keep fun k hk => ?_, ?_, D.hcs, D.hcu, D.n1, D.n2, D.n3, D.n4⟩
      · show RowIs W2 L.bs (u8s (spl d.seen (256 * i) F ++ L.js))
        rw [← spl_app _ _ _ _ (by rw [hsl, hFl]; omega), Nat.mul_comm, ← HS1.out, hW2]
        exact (D.seen.set _).drew
      · rw [hW2]
        have := (D.n4 k hk).2.1
        show (W.setRow L.bs (u8s S1)).heap[k]? = _
        simp only [World.setRow, Array.getElem?_modify]
        rw [if_neg (Ne.symm this)]
      · have hk := D.ok
        exact ⟨hk.n1, hk.n6, by show (spl d.seen (256 * i) F).length = 256 * d.n; rw [spl_length _ _ _ (by rw [hsl, hFl]; omega)]; exact hsl, hk.sure, hk.pend, hk.lo, hk.hi⟩
    · rw [hW2]
      exact (dW.upx.trans (Upx.row W hbs _)).then (Below.refl _ _).drew
  have hs2 : ow < W2.heap.size := RW2.lt
  rw [← hW2]
  clear hst hl HS1 hW2 RW c0 dW hsW hsl
  have c2 : W2.cell? ⟨L.g, 2, none⟩ = some L.vp := d2.dev.row.cells5.2.2.1
  have f2 := d2.dev.row.fz 2
  go_wp2_with fail
  refine wp_region_lexT [] [4, 5] (PendS L.g ow L.vp (wcell i F)) (by kernel_rfl) (by decide +kernel) ⟨c2, RW2.drew⟩ (fun hS => ?_)
  (go_wp2_with (first | (refine wpLexT_pure rfl (fun _ _ => ?_); go_simp; refine ⟨_, fun w9 hw9 => (by have s1 := hw9.1; have s2 := hw9.2.has; have s3 := hw9.2.row; go_simp; rfl), ?_⟩) | (refine wpLexT_pure0 rfl (fun _ _ => ?_); go_simp; try go_bits) | (refine wpLexT_read rfl (fun _ _ => ?_); go_simp; try go_bits)))
  refine wpLexT_loud rfl (fun KL hKL => ?_)
  have hws : (wcell (i : Int) F).size = 257 := by rw [wcell_size, hFl]
  go_wp2_with fail
  obtain ⟨W3, hW3⟩ : ∃ W3, W3 = (W2.alloc (.cells (wcell i F) 61)).drew := ⟨_, rfl⟩
  have hb3 : Below W2.heap.size W2 W3 := by rw [hW3]; exact (by repeat (first | with_reducible exact Below.refl _ _ | with_reducible assumption | refine Below.drew ?_ | refine below_drewN ?_ | refine Below.alloc ?_ (by first | omega | (simp; done) | (simp; omega)) _ | refine below_setRow ?_ (by omega) _ | refine Below.setCell ?_ (by first | omega | (simp; done) | (simp; omega)) _))
  have R3 : RowIs W3 W2.heap.size (wcell i F) := by rw [hW3]; exact (RowIs.new _ _ _).drew
  have RW3 := RW2.step hb3
  have c23 : W3.cell? ⟨L.g, 2, none⟩ = some L.vp := (d2.dev.step hb3).row.cells5.2.2.1
  rw [← hW3]
  refine hKL _ _ ⟨c23, RW3⟩ (fun _ => ?_)
  refine wpLexT_loud rfl (fun KL hKL => ?_)
  refine wpList_wanted (by rfl) (fun K1 hK1 => ?_)
  obtain ⟨ii, hi1, hz, hs1, hb1⟩ := info_parts Try.infoW
  have own3 : OwnP W3 L.vp d.pend := (d2.dev.step hb3).pend
  refine wp_append_lies _ (.tmp 46) (.tmp 48) 55 rfl 0 61 ii _ 257 264 Try.underlying55 hi1 hz hs1 hb1 (by simp [Value.cells]) (by omega) L.vp d.pend.length (pcells d.pend) rfl own3 ⟨W2.heap.size, 0, none⟩ 1 1 (wcell i F).toList rfl
    (by simp [wcell_size, hFl]) (fun j u hu => by
      obtain ⟨t, ht⟩ := R3.row.heap
      rw [R3.has] at ht
      rw [Addr.add_mid, Nat.zero_add, cell_of_row W3 _ j _ t (0, 0) ht]
      simpa using hu) (fun u hu => (Array.all_eq_true_iff_forall_mem.1 (wcell_one i F)) u (by simpa using hu)) (by omega) (by simp only [maxLen]; omega) (by omega) (Nat.zero_le _) _ rfl ?_
  intro g3 cap w4 hown4 hg4 hat4 hlt4
  refine hK1 _ _ ?_
  go_wp2_with fail
  have c24 : w4.cell? ⟨L.g, 2, none⟩ = some L.vp := hg4.cell c23 (fun e => (d2.dev.n4 _ e.symm).1 rfl)
  have RW4 : RowIs w4 ow (wcell i F) := by
    have e := hg4.block ow RW3.lt (fun e => how ow (.inr (.inr (.inr e.symm))) rfl)
    exact ⟨by unfold IsRow; rw [e]; exact RW3.row, by unfold rowOf; rw [e]; exact RW3.has⟩
  refine hKL _ _ ⟨c24, RW4⟩ (fun _ => ?_)
  (go_wp2_with (first | (refine wpLexT_pure rfl (fun _ _ => ?_); go_simp; refine ⟨_, fun w9 hw9 => (by have s1 := hw9.1; have s2 := hw9.2.has; have s3 := hw9.2.row; go_simp; rfl), ?_⟩) | (refine wpLexT_pure0 rfl (fun _ _ => ?_); go_simp; try go_bits) | (refine wpLexT_read rfl (fun _ _ => ?_); go_simp; try go_bits)))
  have f24 : w4.frozen? ⟨L.g, 2, none⟩ = false := by rw [World.frozen?_of_block (w := W3) (hg4.block L.g (d2.dev.step hb3).row.lt (fun e => (d2.dev.n4 _ e.symm).1 rfl))]; exact (d2.dev.step hb3).row.fz 2
  refine wpLexT_last (fun KL hKL => ?_)
  go_wp2_with fail
  go_ret
  have hD : Dv.write d i b = { d.tick with seen := spl d.seen (256 * i) F, pend := d.pend ++ [(i, F)] } ∧ d.errW i b = 0 := by
    have := Dv.write_done (d := d) (i := (i : Int)) (b := b) (by omega) (by rw [HM.out]; omega) (by rw [HDN.out]; simp)
    rw [← HF.out] at this
    simpa using this
  have hg3 : L.vp.ownBlock = some g3 ∨ g3 = W3.heap.size := hat4
  have hw3 : w.heap.size ≤ W3.heap.size := by have := hb3.size; omega
  have hne : g3 ≠ L.g ∧ g3 ≠ L.bs ∧ g3 ≠ L.bu := by
    rcases hg3 with e | e
    · exact d2.dev.n4 _ e
    · have a1 := h.lt (k := L.g) (.inl rfl); have a2 := h.lt (k := L.bs) (.inr (.inl rfl)); have a3 := h.lt (k := L.bu) (.inr (.inr (.inl rfl)))
      omega
  have hp := Dev.push (d2.dev.step hb3) (W4 := w4) (g3 := g3) (cap := cap) (i := i) (F := F) hi hFl (fun k hk hne => hg4.block k ((d2.dev.step hb3).lt hk) (fun e => hne e.symm)) (by
    unfold OwnP
    rw [pcells_app, pcells_one, List.length_append]
    exact hown4) hne
  refine ⟨by rw [hD.2]; rfl, { L with vp := .slice (some ⟨g3, 0, none⟩) (d.pend.length + 1) cap }, rfl, ?_, ?_, ?_⟩
  · rw [hD.1]; exact hp
  · refine ((d2.upx.then hb3).trans' (Upx.grown (X := L.has) hg4 (fun k e => .inr (.inr (.inr e)))) (fun _ _ h => h)).trans (Upx.put w4 (.inl rfl) 2 _)
  · rintro k (hk | hk | hk | hk)
    · exact .inl (.inl hk)
    · exact .inl (.inr (.inl hk))
    · exact .inl (.inr (.inr (.inl hk)))
    · have : g3 = k := by simpa [Value.ownBlock] using hk
      rcases hg3 with e | e
      · exact .inl (.inr (.inr (.inr (by rw [e, this]))))
      · right; omega
set_option maxRecDepth 100000 in
theorem write_any (L : DL) (d : Dv) (i : Int) (A : Option Addr) (c : Nat) (b : List UInt8) (w : World) (h : Dev w L d) (hc : b.length ≤ c) (hr : Rd8 w w.heap.size A b) (hx : 0 < b.length → ∀ g o, A = some ⟨g, o, none⟩ → ¬ L.has g) (hpl : d.pend.length ≤ 100000) :
    Calls Try.prog 14 #[.pointer (some ⟨L.g, 0, none⟩), .int .i64 i, .slice A b.length c] w (WriteRes L d i b w) := by
  by_cases hi : i < 0 ∨ (d.n : Int) ≤ i
  · have hD := Dv.write_sector (d := d) (b := b) hi
    obtain ⟨c0, c1, c2, c3, c4⟩ := h.row.cells5
    clear c1 c2 c3 c4
    have fin : WriteRes L d i b w (.returned (.int .i64 60)) w := ⟨by rw [hD.2], L, by rw [hD.1]; exact DevTo.mk1 h (Upx.refl _ _)⟩
    by_cases hi0 : i < 0
    · go_enter Try.func14, Try.ntmps14
      go_wp2_with fail
      go_ret
      exact fin
    · have hi1 : (d.n : Int) ≤ i := by omega
      go_enter Try.func14, Try.ntmps14
      go_wp2_with fail
      go_ret
      exact fin
  · obtain ⟨n, rfl⟩ : ∃ n : Nat, i = n := ⟨i.toNat, by omega⟩
    have i0 : ¬ (n : Int) < 0 := by omega
    have i1 : ¬ (d.n : Int) ≤ n := by omega
    by_cases hb : 256 < b.length
    · have hD := Dv.write_long (d := d) hi hb
      have fin : WriteRes L d n b w (.returned (.int .i64 2)) w := ⟨by rw [hD.2], L, by rw [hD.1]; exact DevTo.mk1 h (Upx.refl _ _)⟩
      obtain ⟨c0, c1, c2, c3, c4⟩ := h.row.cells5
      have i2 : (256 : Int) < b.length := by omega
      clear c1 c2 c3 c4 hr
      go_enter Try.func14, Try.ntmps14
      go_wp2_with fail
      go_ret
      exact fin
    · by_cases hd : d.tick.down = true
      · have hD := Dv.write_down (d := d) hi hb hd
        obtain ⟨c0, c1, c2, c3, c4⟩ := h.row.cells5
        have i2 : ¬ (256 : Int) < b.length := by omega
        have HD := Lib.hid hD
        have HDN := Lib.hid hd
        clear c1 c2 c3 c4 hr hD hd
        go_enter Try.func14, Try.ntmps14
        go_wp2_with fail
        refine (done_any L d _ h).mono ?_
        rintro e w1 ⟨rfl, hd1⟩
        rw [HDN.out]
        go_wp2_with fail
        go_ret
        exact ⟨by rw [HD.out.2]; rfl, L, by rw [HD.out.1]; exact hd1⟩
      · exact write_goes L d n A c b w h hc hr hx (by omega) (by omega) (by simpa using hd) hpl
end Go.Proofs.Ytbfloejpgjheiaa
