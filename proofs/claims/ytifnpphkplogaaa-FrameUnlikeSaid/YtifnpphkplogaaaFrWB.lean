/- Layer 10: a bundle as a value; a bundle's bytes, by the program. | Layer 10: the zero frame and the zero bundle; whole loads and stores. | Layer 10: a bundle of bytes, by the program. | Layer 10: a bundle of bytes, by the document. -/
import Derived.Test.YtifnpphkplogaaaFrWA
import Derived.Laws.ResultCell
namespace Go.Proofs.Ytifnpphkplogaaa
section
section
open Go.RowKit
attribute [local go_sem ↓] xbslK
@[irreducible] def buC (x : BuP) : Array Value := (flatK [x.chain, x.epo, x.sign, x.noise]).toArray
theorem buC_def (x : BuP) : buC x = (flatK [x.chain, x.epo, x.sign, x.noise]).toArray := by unfold buC; rfl
theorem buC_size {x : BuP} (hw : x.WF) : (buC x).size = 128 := by
  rw [buC_def, List.size_toArray, flatK_length _ (bu_keys hw)]; rfl
theorem bu_loads {w : World} {g : Nat} {x : BuP} (h : RowIs w g (buC x)) (hw : x.WF) :
    (loadAgg 72 (.pointer (some ⟨g, 0, none⟩))).run Try.prog w = .ok (.value (.agg (u8s x.chain))) w ∧ (loadAgg 72 (.pointer (some ⟨g, 32, none⟩))).run Try.prog w = .ok (.value (.agg (u8s x.epo))) w ∧
    (loadAgg 72 (.pointer (some ⟨g, 64, none⟩))).run Try.prog w = .ok (.value (.agg (u8s x.sign))) w ∧ (loadAgg 72 (.pointer (some ⟨g, 96, none⟩))).run Try.prog w = .ok (.value (.agg (u8s x.noise))) w := by
  rw [buC_def] at h
  have key : ∀ (i : Nat) (K : List UInt8), i < 4 → nthL [x.chain, x.epo, x.sign, x.noise] i = K → K.length = 32 → (loadAgg 72 (.pointer (some ⟨g, i * 32, none⟩))).run Try.prog w = .ok (.value (.agg (u8s K))) w := by
    intro i K hi hn hK
    refine key_load (fun j v hv => ?_) hK
    have h1 := flatK_get _ (bu_keys hw) i hi j v (by rw [hn]; exact hv)
    have h2 := h.range 0 (flatK [x.chain, x.epo, x.sign, x.noise]).length (i * 32 + j) v (by rw [List.drop_zero, List.take_length]; exact h1)
    rw [Nat.zero_add] at h2
    exact h2
  exact ⟨key 0 _ (by omega) (by rw [nthL_def]; rfl) hw.chain, key 1 _ (by omega) (by rw [nthL_def]; rfl) hw.epo, key 2 _ (by omega) (by rw [nthL_def]; rfl) hw.sign, key 3 _ (by omega) (by rw [nthL_def]; rfl) hw.noise⟩
theorem bu_done {x : BuP} (hw : x.WF) : okeysP (onumP ⟨[], 0⟩ (UInt64.ofNat 2) 1) [x.chain, x.epo, x.sign, x.noise] = ⟨encBP x, 0⟩ := by
  have h := encOut_good ((buI x).map Prod.fst) [] (fun y hy => by obtain ⟨p, hp, rfl⟩ := List.mem_map.1 hy; exact (bu_ok hw p hp).1)
  rw [List.nil_append, List.map_map] at h
  exact h
set_option maxRecDepth 100000 in
set_option maxHeartbeats 3200000 in
theorem buenc_any (x : BuP) (w : World) (hw : x.WF) : Calls Try.prog 57 #[.agg (buC x)] w (BsRes w (encBP x)) := by
  obtain ⟨r, hr⟩ : ∃ r, r = w.heap.size := ⟨_, rfl⟩
  obtain ⟨g, hg⟩ : ∃ g, g = w.heap.size + 1 := ⟨_, rfl⟩
  have B : Below w.heap.size w ((w.alloc (.cells (buC x) 88)).alloc (.cells #[.slice none 0 0, .int .i64 0] 49)) := (by repeat (first | with_reducible exact Below.refl _ _ | with_reducible assumption | refine Below.drew ?_ | refine below_drewN ?_ | refine Below.alloc ?_ (by first | omega | (simp; done) | (simp; omega)) _ | refine below_setRow ?_ (by omega) _ | refine Below.setCell ?_ (by first | omega | (simp; done) | (simp; omega)) _))
  have R : RowIs ((w.alloc (.cells (buC x) 88)).alloc (.cells #[.slice none 0 0, .int .i64 0] 49)) r (buC x) := (RowIs.new' hr).alloc _
  have ho : OutIs ((w.alloc (.cells (buC x) 88)).alloc (.cells #[.slice none 0 0, .int .i64 0] 49)) g ⟨[], 0⟩ := ⟨_, RowIs.new' (by rw [hg]; simp), Bs.nil _⟩
  have hne : r ≠ g := by omega
  have l1 := onumP_grow ⟨[], 0⟩ (UInt64.ofNat 2) 1
  rw [show (⟨[], 0⟩ : OutP).b.length = 0 from rfl] at l1
  have S1 := outnum_any g ⟨[], 0⟩ (UInt64.ofNat 2) 1 _ ho (by simp)
  rw [n64_nat 2 (by omega), hg] at S1
  have HR := Lib.hid hr
  have HG := Lib.hid hg
  have H1 := Lib.hid S1
  have hgw : w.heap.size ≤ g := by omega
  clear S1 hr hg
  go_enter Try.func57, Try.ntmps57
  go_wp2_with fail
  refine H1.out.mono ?_
  rintro e w2 ⟨rfl, ho2, u2⟩
  rw [← HG.out] at ho2 u2
  have R2 := R.upd u2 hne
  obtain ⟨k0, k1, k2, k3⟩ := bu_loads R2 hw
  rw [HR.out] at k0 k1 k2 k3
  have hbk := bslK4 x.chain x.epo x.sign x.noise hw.chain hw.epo hw.sign hw.noise w2
  have q4 : Below w2.heap.size w2 (w2.alloc (.cells (flatK [x.chain, x.epo, x.sign, x.noise]).toArray 72)) := (by repeat (first | with_reducible exact Below.refl _ _ | with_reducible assumption | refine Below.drew ?_ | refine below_drewN ?_ | refine Below.alloc ?_ (by first | omega | (simp; done) | (simp; omega)) _ | refine below_setRow ?_ (by omega) _ | refine Below.setCell ?_ (by first | omega | (simp; done) | (simp; omega)) _))
  have hK : KsL (w2.alloc (.cells (flatK [x.chain, x.epo, x.sign, x.noise]).toArray 72)) (.slice (some ⟨w2.heap.size, 0, none⟩) 4 4) [x.chain, x.epo, x.sign, x.noise] := KsL.rowN (bu_keys hw) rfl (RowIs.new _ _ _)
  have S4 := outkeys_any g _ _ [x.chain, x.epo, x.sign, x.noise] _ (OutIs.step ho2 q4) hK (bu_keys hw) (by simp) (by omega)
  rw [bu_done hw, HG.out] at S4
  have H4 := Lib.hid S4
  clear S4
  go_wp2_with fail
  refine H4.out.mono ?_
  rintro e w3 ⟨rfl, ho3, u3⟩
  rw [← HG.out] at ho3 u3
  have S6 := outdone_any g ⟨encBP x, 0⟩ w3 ho3 (by show (encBP x).length ≤ 1000000; rw [bu_len hw]; omega)
  rw [HG.out] at S6
  have H6 := Lib.hid S6
  clear S6
  go_wp2_with fail
  refine H6.out.mono ?_
  rintro e w6 ⟨v6, rfl, hb6, b6⟩
  have B5 := ((u2.then q4).trans u3).below B hgw B.size
  go_wp2_with fail
  go_ret
  exact ⟨v6, rfl, hb6, B5.trans (b6.mono B5.size)⟩
end
end
section
section
open Go.RowKit
theorem xbuLoad (ev : Operand → Value) (d : Option Tmp) (x : Operand) (ty : TypeId) (p : String) (af : Array Edge) (g : Option (Nat × Bool)) :
    execOp ev ⟨d, .load 88 x, ty, p, af, g⟩ = loadAgg 88 (ev x) := exec_loadAgg ev d _ x ty p af g
theorem xbuStore (ev : Operand → Value) (d : Option Tmp) (x y : Operand) (ty : TypeId) (p : String) (af : Array Edge) (g : Option (Nat × Bool)) :
    execOp ev ⟨d, .store 88 x y, ty, p, af, g⟩ = storeAgg 88 (ev x) (ev y) := exec_storeAgg ev d _ x y ty p af g
theorem xbuBuild (ev : Operand → Value) (d : Option Tmp) (ps : Array (Nat × Operand)) (ty : TypeId) (p : String) (af : Array Edge) (g : Option (Nat × Bool)) :
    execOp ev ⟨d, .build 88 ps, ty, p, af, g⟩ = buildK 88 (ps.map fun x => (x.1, ev x.2)) := exec_buildK ev d _ ps ty p af g
theorem xfrStore (ev : Operand → Value) (d : Option Tmp) (x y : Operand) (ty : TypeId) (p : String) (af : Array Edge) (g : Option (Nat × Bool)) :
    execOp ev ⟨d, .store 80 x y, ty, p, af, g⟩ = storeAgg 80 (ev x) (ev y) := exec_storeAgg ev d _ x y ty p af g
theorem xfrBuild (ev : Operand → Value) (d : Option Tmp) (ps : Array (Nat × Operand)) (ty : TypeId) (p : String) (af : Array Edge) (g : Option (Nat × Bool)) :
    execOp ev ⟨d, .build 80 ps, ty, p, af, g⟩ = buildK 80 (ps.map fun x => (x.1, ev x.2)) := exec_buildK ev d _ ps ty p af g
attribute [go_sem ↓] xbuLoad xbuStore xbuBuild xfrStore xfrBuild
theorem buload {w : World} {g : Nat} {x : BuP} (hr : RowIs w g (buC x)) (hw : x.WF) : (loadAgg 88 (.pointer (some ⟨g, 0, none⟩))).run Try.prog w = .ok (.value (.agg (buC x))) w := by
  have := run_loadAgg (P := Try.prog) 128 88 (by omega) (by kernel_rfl) (by kernel_rfl) w g (by rw [hr.has, buC_size hw])
  rw [hr.has] at this; exact this
theorem buZ : #[Value.int .u8 0, .int .u8 0, .int .u8 0, .int .u8 0, .int .u8 0, .int .u8 0, .int .u8 0, .int .u8 0, .int .u8 0, .int .u8 0, .int .u8 0, .int .u8 0, .int .u8 0, .int .u8 0, .int .u8 0, .int .u8 0, .int .u8 0, .int .u8 0, .int .u8 0, .int .u8 0, .int .u8 0, .int .u8 0, .int .u8 0, .int .u8 0, .int .u8 0, .int .u8 0, .int .u8 0, .int .u8 0, .int .u8 0, .int .u8 0, .int .u8 0, .int .u8 0, .int .u8 0, .int .u8 0, .int .u8 0, .int .u8 0, .int .u8 0, .int .u8 0, .int .u8 0, .int .u8 0, .int .u8 0, .int .u8 0, .int .u8 0, .int .u8 0, .int .u8 0, .int .u8 0, .int .u8 0, .int .u8 0, .int .u8 0, .int .u8 0, .int .u8 0, .int .u8 0, .int .u8 0, .int .u8 0, .int .u8 0, .int .u8 0, .int .u8 0, .int .u8 0, .int .u8 0, .int .u8 0, .int .u8 0, .int .u8 0, .int .u8 0, .int .u8 0, .int .u8 0, .int .u8 0, .int .u8 0, .int .u8 0, .int .u8 0, .int .u8 0, .int .u8 0, .int .u8 0, .int .u8 0, .int .u8 0, .int .u8 0, .int .u8 0, .int .u8 0, .int .u8 0, .int .u8 0, .int .u8 0, .int .u8 0, .int .u8 0, .int .u8 0, .int .u8 0, .int .u8 0, .int .u8 0, .int .u8 0, .int .u8 0, .int .u8 0, .int .u8 0, .int .u8 0, .int .u8 0, .int .u8 0, .int .u8 0, .int .u8 0, .int .u8 0, .int .u8 0, .int .u8 0, .int .u8 0, .int .u8 0, .int .u8 0, .int .u8 0, .int .u8 0, .int .u8 0, .int .u8 0, .int .u8 0, .int .u8 0, .int .u8 0, .int .u8 0, .int .u8 0, .int .u8 0, .int .u8 0, .int .u8 0, .int .u8 0, .int .u8 0, .int .u8 0, .int .u8 0, .int .u8 0, .int .u8 0, .int .u8 0, .int .u8 0, .int .u8 0, .int .u8 0, .int .u8 0, .int .u8 0, .int .u8 0, .int .u8 0, .int .u8 0] = buC BuP.zero := by
  rw [buC_def, flatK]
  simp only [List.flatMap_cons, List.flatMap_nil, u8v_def, BuP.zero]
  kernel_rfl
theorem frZ : #[Value.int .u32 0, .int .u32 0, .int .u8 0, .int .u8 0, .int .u8 0, .int .u8 0, .int .u8 0, .int .u8 0, .int .u8 0, .int .u8 0, .int .u8 0, .int .u8 0, .int .u8 0, .int .u8 0, .int .u8 0, .int .u8 0, .int .u8 0, .int .u8 0, .int .u8 0, .int .u8 0, .int .u8 0, .int .u8 0, .int .u8 0, .int .u8 0, .int .u8 0, .int .u8 0, .int .u8 0, .int .u8 0, .int .u8 0, .int .u8 0, .int .u8 0, .int .u8 0, .int .u8 0, .int .u8 0, .int .u8 0, .int .u8 0, .int .u8 0, .int .u8 0, .int .u8 0, .int .u8 0, .int .u8 0, .int .u8 0, .int .u8 0, .int .u8 0, .int .u8 0, .int .u8 0, .int .u8 0, .int .u8 0, .int .u8 0, .int .u8 0, .int .u8 0, .int .u8 0, .int .u8 0, .int .u8 0, .int .u8 0, .int .u8 0, .int .u8 0, .int .u8 0, .int .u8 0, .int .u8 0, .int .u8 0, .int .u8 0, .int .u8 0, .int .u8 0, .int .u8 0, .int .u8 0, .int .u8 0, .int .u8 0, .int .u8 0, .int .u8 0, .int .u8 0, .int .u8 0, .int .u8 0, .int .u8 0, .int .u8 0, .int .u8 0, .int .u8 0, .int .u8 0, .int .u8 0, .int .u8 0, .int .u8 0, .int .u8 0, .int .u8 0, .int .u8 0, .int .u8 0, .int .u8 0, .int .u8 0, .int .u8 0, .int .u8 0, .int .u8 0, .int .u8 0, .int .u8 0, .int .u8 0, .int .u8 0, .int .u8 0, .int .u8 0, .int .u8 0, .int .u8 0, .slice none 0 0, .slice none 0 0] = frC FrP.zero (.slice none 0 0) (.slice none 0 0) := by
  rw [frC_def, frL]
  simp only [u8v_def, FrP.zero]
  kernel_rfl
theorem buBuilt (parts : List (Nat × Value)) : Try.prog.built 88 parts = Instr.fill (#[(0, 32), (32, 32), (64, 32), (96, 32)][·]?) (u8v (zeros 128)).toArray parts := by
  rw [u8v_def, zeros_def]
  kernel_rfl
theorem buBuild0 (w : World) : (buildK 88 #[]).run Try.prog w = .ok (.value (.agg (buC BuP.zero))) w := run_buildK (by
  rw [buBuilt]
  unfold Instr.fill
  rw [buC_def, flatK]
  simp only [List.flatMap_cons, List.flatMap_nil, u8v_def, BuP.zero, zeros_def]
  kernel_rfl) w
theorem buBuild4 (a b c d : List UInt8) (ha : a.length = 32) (hb : b.length = 32) (hc : c.length = 32) (hd : d.length = 32) (w : World) : (buildK 88 #[(0, .agg (u8s a)), (1, .agg (u8s b)), (2, .agg (u8s c)), (3, .agg (u8s d))]).run Try.prog w = .ok (.value (.agg (buC ⟨a, b, c, d⟩))) w := run_buildK (by
  rw [buBuilt]
  obtain ⟨Z, hZ⟩ : ∃ Z : List Value, Z = u8v (zeros 128) := ⟨_, rfl⟩
  have hZl : Z.length = 128 := by rw [hZ, u8v_length, zeros_length]
  rw [← hZ]
  have la : (u8v a).length = 32 := by rw [u8v_length, ha]
  have lb : (u8v b).length = 32 := by rw [u8v_length, hb]
  have lc : (u8v c).length = 32 := by rw [u8v_length, hc]
  have ld : (u8v d).length = 32 := by rw [u8v_length, hd]
  have e0 : spl Z 0 (u8v a) = u8v a ++ Z.drop 32 := by rw [spl, List.take_zero, List.nil_append, Nat.zero_add, la]
  have q0 : (u8v a ++ Z.drop 32).length = 128 := by simp only [List.length_append, List.length_drop]; omega
  have e1 : spl (u8v a ++ Z.drop 32) 32 (u8v b) = u8v a ++ u8v b ++ Z.drop 64 := spl_next _ _ _ _ (by first | omega | (simp only [List.length_append]; omega)) lb
  have q1 : (u8v a ++ u8v b ++ Z.drop 64).length = 128 := by simp only [List.length_append, List.length_drop]; omega
  have e2 : spl (u8v a ++ u8v b ++ Z.drop 64) 64 (u8v c) = u8v a ++ u8v b ++ u8v c ++ Z.drop 96 := spl_next _ _ _ _ (by first | omega | (simp only [List.length_append]; omega)) lc
  have q2 : (u8v a ++ u8v b ++ u8v c ++ Z.drop 96).length = 128 := by simp only [List.length_append, List.length_drop]; omega
  have e3 : spl (u8v a ++ u8v b ++ u8v c ++ Z.drop 96) 96 (u8v d) = u8v a ++ u8v b ++ u8v c ++ u8v d ++ Z.drop 128 := spl_next _ _ _ _ (by first | omega | (simp only [List.length_append]; omega)) ld
  have q3 : (u8v a ++ u8v b ++ u8v c ++ u8v d ++ Z.drop 128).length = 128 := by simp only [List.length_append, List.length_drop]; omega
  rw [fill_part (s := 32) (off := 0) rfl _ (.agg (u8s a)) (u8v a) (by rw [u8s_toArray]; rfl) la (by omega), e0]
  rw [fill_part (s := 32) (off := 32) rfl _ (.agg (u8s b)) (u8v b) (by rw [u8s_toArray]; rfl) lb (by omega), e1]
  rw [fill_part (s := 32) (off := 64) rfl _ (.agg (u8s c)) (u8v c) (by rw [u8s_toArray]; rfl) lc (by omega), e2]
  rw [fill_part (s := 32) (off := 96) rfl _ (.agg (u8s d)) (u8v d) (by rw [u8s_toArray]; rfl) ld (by omega), e3]
  unfold Instr.fill
  rw [List.drop_of_length_le (by omega), List.append_nil, buC_def]
  simp only [flatK, List.flatMap_cons, List.flatMap_nil, List.append_nil, List.append_assoc]) w
theorem buStore (w : World) (g : Nat) (x : BuP) (hw : x.WF) (hr : (rowOf w g).size = 128) :
    (storeAgg 88 (.pointer (some ⟨g, 0, none⟩)) (.agg (buC x))).run Try.prog w = .ok .skip (w.setRow g (buC x)) :=
  run_storeAgg 128 88 (by omega) (by kernel_rfl) w g (buC x) hr (buC_size hw) (by
    rw [Array.all_eq_true_iff_forall_mem]
    intro v hv
    rw [buC_def, List.mem_toArray, flatK, List.mem_flatMap] at hv
    obtain ⟨k, -, hv⟩ := hv
    exact u8v_one k v hv)
attribute [go_sem] buZ frZ
end
end
section
section
open Go.RowKit
theorem zcBu : Try.zeroCells88 = buC BuP.zero := Eq.trans (by kernel_rfl) buZ
attribute [local go_sem] buZ buBuild0 zcBu
theorem bodyPost_rowTmp {P : Program} {fn : Func} {R : Ending → World → Prop} {a : Act} {w : World} (p u : Tmp) (ty : TypeId) (g n : Nat) (hres : fn.results = #[.cell p ty, .tmp u])
    (hp : a.tmps.getD p undef = .pointer (some ⟨g, 0, none⟩)) (hn : 0 < n) (hu : (match P.underlying ty with | some (.struct _) | some (.array _ _) => true | _ => false) = true)
    (hi : (P.info? ty).map (·.size) = some n) (hr : (rowOf w g).size = n) (hd : a.defers = []) (hR : R (.returned (.tuple #[.agg (rowOf w g), a.tmps.getD u undef])) w) : bodyPost P fn R .ret a w := by
  obtain ⟨t, ht⟩ := rowOf_some hr hn
  cases hdd : P.underlying ty with
  | none => simp [hdd] at hu
  | some d =>
    refine bodyPost_ret ?_ hd hR
    rw [results_cell_tmp hres, hp]
    have := run_loadVar_row w g t ty _ (0, 0) d ht hdd (by rw [hdd] at hu; cases d <;> simp_all) (by rw [hi, hr])
    simp [asAddr, this, Result.andThen]
theorem ikeysP_32 (i : InP) (m : Int) : ∀ k ∈ (ikeysP i m).1, k.length = 32 := by
  unfold ikeysP
  exact cutK_all _ _ (by omega)
theorem keyAt_32 {l : BLs} (h : ∀ k ∈ l, k.length = 32) (i : Nat) : (keyAt l i).length = 32 := by
  unfold keyAt
  cases e : l[i]? with
  | none => simp
  | some k => exact h k (List.mem_of_getElem? e)
def BuTo (p : BuP × Int) (w : World) (e : Ending) (w' : World) : Prop := e = .returned (.tuple #[.agg (buC p.1), .int .i64 p.2]) ∧ Below w.heap.size w w'
theorem zero_wf : BuP.zero.WF := ⟨by simp [BuP.zero], by simp [BuP.zero], by simp [BuP.zero], by simp [BuP.zero]⟩
set_option maxRecDepth 100000 in
set_option maxHeartbeats 3200000 in
theorem budec_any (v : Value) (b : List UInt8) (w : World) (hv : Bs w v b) : Calls Try.prog 55 #[v] w (BuTo (decBP b) w) := by
  obtain ⟨t, ht⟩ : ∃ t, t = w.heap.size := ⟨_, rfl⟩
  have B : Below w.heap.size w (w.alloc (.cells (buC BuP.zero) 88)) := (by repeat (first | with_reducible exact Below.refl _ _ | with_reducible assumption | refine Below.drew ?_ | refine below_drewN ?_ | refine Below.alloc ?_ (by first | omega | (simp; done) | (simp; omega)) _ | refine below_setRow ?_ (by omega) _ | refine Below.setCell ?_ (by first | omega | (simp; done) | (simp; omega)) _))
  have R : RowIs (w.alloc (.cells (buC BuP.zero) 88)) t (buC BuP.zero) := RowIs.new' ht
  have S1 := read_any v b _ (hv.step B)
  have H1 := Lib.hid S1
  have HT := Lib.hid ht
  clear S1
  go_enter Try.func55, Try.ntmps55
  go_wp2_with fail
  refine H1.out.mono ?_
  rintro e w1 ⟨g, rfl, hi1, b1⟩
  have Z := R.lt
  have R1 := R.below b1 Z
  have htB : t < (w.alloc (.cells (buC BuP.zero) 88)).heap.size := Z
  have hne : t ≠ g := by have := hi1.1; omega
  have hB1 := B.trans (b1.mono B.size)
  have hgw : w.heap.size ≤ g := by have := hi1.1; have := B.size; omega
  have S2 := innum_any _ g ⟨b, 0⟩ 1 w1 hi1
  rw [show inumP ⟨b, 0⟩ 1 = rd1 b from rfl] at S2
  have H2 := Lib.hid S2
  clear S2
  go_wp2_with fail
  refine H2.out.mono ?_
  rintro e w2 ⟨rfl, hi2, u2⟩
  have R2 := R1.upd u2 hne
  have S3 := inkeys_any _ g (rd1 b).2 4 w2 hi2
  rw [show ikeysP (rd1 b).2 4 = rdB b from rfl] at S3
  have H3 := Lib.hid S3
  clear S3
  go_wp2_with fail
  refine H3.out.mono ?_
  rintro e w3 ⟨vk, rfl, hk3, hi3, u3⟩
  have R3 := R2.upd u3 hne
  have H4 := Lib.hid (inend_any _ g (rdB b).2 w3 hi3)
  have B3 := (u2.trans u3).below hB1 hgw hB1.size
  obtain ⟨A, c, rfl, -⟩ := id hk3
  go_wp2_with fail
  refine H4.out.mono ?_
  rintro e w4 ⟨rfl, rfl⟩
  have hrt := R3.has
  have hst := buStore w3 t BuP.zero zero_wf (by rw [hrt, buC_size zero_wf])
  rw [HT.out] at hst
  have hrow : rowOf (w3.setRow w.heap.size (buC BuP.zero)) w.heap.size = buC BuP.zero := rowOf_setRow _ _ _ (HT.out ▸ R3.row)
  have HROW := Lib.hid hrow
  clear hrow
  by_cases h1 : endP (rdB b).2 = 0
  · rw [h1]
    by_cases h2 : (rd1 b).1 = 2
    · by_cases h4 : (rdB b).1.length = 4
      · have g2 : (n64 (rd1 b).1 != (2 : Int)) = false := by rw [h2, n64_def]; rfl
        have g3 : (((rdB b).1.length : Int) != (4 : Int)) = false := by rw [h4]; rfl
        have CK : Hid (decBP b = (rdBu b, 0)) := Lib.hid (by unfold decBP; rw [if_neg (fun e => e h1), if_neg (by intro e; rcases e with e | e; exact e h2; exact e h4)])
        obtain ⟨n4, hn4⟩ : ∃ n4, n4 = (rdB b).1.length := ⟨_, rfl⟩
        have HL := Lib.hid h4
        clear h1 h2 h4 hn4 n4
        have hd : Below w3.heap.size w3 w3.drew := (by repeat (first | with_reducible exact Below.refl _ _ | with_reducible assumption | refine Below.drew ?_ | refine below_drewN ?_ | refine Below.alloc ?_ (by first | omega | (simp; done) | (simp; omega)) _ | refine below_setRow ?_ (by omega) _ | refine Below.setCell ?_ (by first | omega | (simp; done) | (simp; omega)) _))
        obtain ⟨A', c', he, -, hel⟩ := hk3.step hd
        injection he with e1 _ e2
        subst e1
        subst e2
        obtain ⟨ga, oa, rfl, hga, hit⟩ := hel (by rw [HL.out]; omega)
        have hkey : ∀ i, i < 4 → nthL (rdB b).1 i = keyAt (rdB b).1 i := fun i hi => by
          rw [nthL_def, keyAt, List.getD_eq_getElem?_getD, List.getElem?_eq_getElem (by rw [HL.out]; exact hi)]; rfl
        have hlen : ∀ i, (keyAt (rdB b).1 i).length = 32 := keyAt_32 (ikeysP_32 _ _)
        have ld : ∀ i, i < 4 → (loadAgg 72 (.pointer (some ⟨ga, oa + i * 32, none⟩))).run Try.prog w3.drew = .ok (.value (.agg (u8s (keyAt (rdB b).1 i)))) w3.drew := fun i hi =>
          key_load (by have := hit i (by rw [HL.out]; exact hi); rw [hkey i hi] at this; exact this) (hlen i)
        have d0 := ld 0 (by omega); have d1 := ld 1 (by omega); have d2 := ld 2 (by omega); have d3 := ld 3 (by omega)
        simp only [Nat.zero_mul, Nat.add_zero] at d0
        clear ld hit hkey hel
        go_wp2_with fail
        rw [HL.out]
        refine wp_region_tail 13 (by kernel_rfl) (by kernel_rfl) ?_
        simp only [List.take_succ_cons, List.take_zero, List.drop_succ_cons, List.drop_zero]
        have hbd : (buildK 88 #[(0, .agg (u8s (keyAt (rdB b).1 0))), (1, .agg (u8s (keyAt (rdB b).1 1))), (2, .agg (u8s (keyAt (rdB b).1 2))), (3, .agg (u8s (keyAt (rdB b).1 3)))]).run Try.prog w3.drew = .ok (.value (.agg (buC (rdBu b)))) w3.drew := buBuild4 _ _ _ _ (hlen 0) (hlen 1) (hlen 2) (hlen 3) w3.drew
        have hwf : (rdBu b).WF := ⟨hlen 0, hlen 1, hlen 2, hlen 3⟩
        have R4 : RowIs w3.drew w.heap.size (buC BuP.zero) := (HT.out ▸ R3).drew
        have hst2 := buStore w3.drew w.heap.size (rdBu b) hwf (by rw [R4.has, buC_size zero_wf])
        have hrow : rowOf (w3.setRow w.heap.size (buC (rdBu b))).drew w.heap.size = buC (rdBu b) := rowOf_setRow w3.drew _ _ R4.row
        have HROW2 := Lib.hid hrow
        clear hrow
        repeat still_step
        refine wpStill_nil ?_
        go_wp2_with fail
        have hrow := HROW2.out
        refine bodyPost_rowTmp 2 3 88 w.heap.size 128 rfl rfl (by omega) (by kernel_rfl) (by kernel_rfl) (by rw [hrow]; exact buC_size hwf) rfl ?_
        exact ⟨by rw [hrow, CK.out]; rfl, below_setRow (B3.trans (hd.mono B3.size)) (Nat.le_refl _) _⟩
      · have g2 : (n64 (rd1 b).1 != (2 : Int)) = false := by rw [h2, n64_def]; rfl
        have g3 : (((rdB b).1.length : Int) != (4 : Int)) = true := by rw [bne_iff_ne]; omega
        have CK : Hid (decBP b = (.zero, 51)) := Lib.hid (by unfold decBP; rw [if_neg (fun e => e h1), if_pos (.inr h4)])
        clear h1 h2 h4
        go_wp2_with fail
        have hrow := HROW.out
        refine bodyPost_rowTmp 2 3 88 w.heap.size 128 rfl rfl (by omega) (by kernel_rfl) (by kernel_rfl) (by rw [hrow]; exact buC_size zero_wf) rfl ?_
        exact ⟨by rw [hrow, CK.out]; rfl, below_setRow B3 (Nat.le_refl _) _⟩
    · have g2 : (n64 (rd1 b).1 != (2 : Int)) = true := by
        rw [bne_iff_ne]
        intro e
        apply h2
        apply UInt64.toNat.inj
        rw [n64_def] at e
        have : ((2 : UInt64).toNat : Int) = 2 := rfl
        omega
      have CK : Hid (decBP b = (.zero, 51)) := Lib.hid (by unfold decBP; rw [if_neg (fun e => e h1), if_pos (.inl h2)])
      clear h1 h2
      go_wp2_with fail
      have hrow := HROW.out
      refine bodyPost_rowTmp 2 3 88 w.heap.size 128 rfl rfl (by omega) (by kernel_rfl) (by kernel_rfl) (by rw [hrow]; exact buC_size zero_wf) rfl ?_
      exact ⟨by rw [hrow, CK.out]; rfl, below_setRow B3 (Nat.le_refl _) _⟩
  · have g1 : (endP (rdB b).2 != (0 : Int)) = true := by rw [bne_iff_ne]; exact h1
    have ck : decBP b = (.zero, endP (rdB b).2) := if_pos h1
    have CK := Lib.hid ck
    clear ck h1
    go_wp2_with fail
    have hrow := HROW.out
    refine bodyPost_rowTmp 2 3 88 w.heap.size 128 rfl rfl (by omega) (by kernel_rfl) (by kernel_rfl) (by rw [hrow]; exact buC_size zero_wf) rfl ?_
    exact ⟨by rw [hrow, CK.out]; rfl, below_setRow B3 (Nat.le_refl _) _⟩
end
end
section
section
open Go.RowKit
attribute [local go_sem] buZ buBuild0 zcBu
set_option maxRecDepth 100000 in
set_option maxHeartbeats 3200000 in
theorem refbudec_any (v : Value) (b : List UInt8) (w : World) (hv : Bs w v b) : Calls Try.prog 56 #[v] w (BuTo (decBP b) w) := by
  obtain ⟨Ab, cb, rfl, -⟩ := id hv
  obtain ⟨t, ht⟩ : ∃ t, t = w.heap.size := ⟨_, rfl⟩
  obtain ⟨g, hg⟩ : ∃ g, g = w.heap.size + 1 := ⟨_, rfl⟩
  have B : Below w.heap.size w ((w.alloc (.cells (buC BuP.zero) 88)).alloc (.cells #[.slice Ab b.length cb, .int .i64 0, .int .i64 0] 66)) := (by repeat (first | with_reducible exact Below.refl _ _ | with_reducible assumption | refine Below.drew ?_ | refine below_drewN ?_ | refine Below.alloc ?_ (by first | omega | (simp; done) | (simp; omega)) _ | refine below_setRow ?_ (by omega) _ | refine Below.setCell ?_ (by first | omega | (simp; done) | (simp; omega)) _))
  have R1 : RowIs ((w.alloc (.cells (buC BuP.zero) 88)).alloc (.cells #[.slice Ab b.length cb, .int .i64 0, .int .i64 0] 66)) t (buC BuP.zero) := (RowIs.new' ht).alloc _
  have hi1 : RInIs ((w.alloc (.cells (buC BuP.zero) 88)).alloc (.cells #[.slice Ab b.length cb, .int .i64 0, .int .i64 0] 66)) w.heap.size g ⟨b, 0⟩ := ⟨by omega, _, b, 0, RowIs.new' (by rw [hg]; simp), hv.bsB.keep B, Nat.zero_le _, fun _ => rfl, fun e => absurd rfl e⟩
  have HT := Lib.hid ht
  have hB1 := B
  have hne : t ≠ g := by omega
  have hgw : w.heap.size ≤ g := by omega
  have S2 := rnum_any _ g ⟨b, 0⟩ 1 _ hi1
  rw [show inumP ⟨b, 0⟩ 1 = rd1 b from rfl, hg] at S2
  have HG := Lib.hid hg
  clear ht hg
  have H2 := Lib.hid S2
  clear S2
  go_enter Try.func56, Try.ntmps56
  go_wp2_with fail
  refine H2.out.mono ?_
  rintro e w2 ⟨rfl, hi2, u2⟩
  rw [← HG.out] at hi2 u2
  have R2 := R1.upd u2 hne
  have S3 := rkeys_any _ g (rd1 b).2 4 w2 hi2
  rw [show ikeysP (rd1 b).2 4 = rdB b from rfl, HG.out] at S3
  have H3 := Lib.hid S3
  clear S3
  go_wp2_with fail
  refine H3.out.mono ?_
  rintro e w3 ⟨vk, rfl, hk3, hi3, u3⟩
  rw [← HG.out] at hi3 u3
  have R3 := R2.upd u3 hne
  have S4 := rend_any _ g (rdB b).2 w3 hi3
  rw [HG.out] at S4
  have H4 := Lib.hid S4
  clear S4
  have B3 := (u2.trans u3).below hB1 hgw hB1.size
  obtain ⟨A, c, rfl, -⟩ := id hk3
  go_wp2_with fail
  refine H4.out.mono ?_
  rintro e w4 ⟨rfl, h4⟩
  have q3 : Below w3.heap.size w3 w4 := by rw [h4]; exact (by repeat (first | with_reducible exact Below.refl _ _ | with_reducible assumption | refine Below.drew ?_ | refine below_drewN ?_ | refine Below.alloc ?_ (by first | omega | (simp; done) | (simp; omega)) _ | refine below_setRow ?_ (by omega) _ | refine Below.setCell ?_ (by first | omega | (simp; done) | (simp; omega)) _))
  replace R3 := R3.step q3
  replace hk3 := hk3.step q3
  replace B3 := B3.trans (q3.mono B3.size)
  clear h4
  have hrt := R3.has
  have hst := buStore w4 t BuP.zero zero_wf (by rw [hrt, buC_size zero_wf])
  rw [HT.out] at hst
  have hrow : rowOf (w4.setRow w.heap.size (buC BuP.zero)) w.heap.size = buC BuP.zero := rowOf_setRow _ _ _ (HT.out ▸ R3.row)
  have HROW := Lib.hid hrow
  clear hrow
  by_cases h1 : endP (rdB b).2 = 0
  · rw [h1]
    by_cases h2 : (rd1 b).1 = 2
    · by_cases h4 : (rdB b).1.length = 4
      · have g2 : (n64 (rd1 b).1 != (2 : Int)) = false := by rw [h2, n64_def]; rfl
        have g3 : (((rdB b).1.length : Int) != (4 : Int)) = false := by rw [h4]; rfl
        have CK : Hid (decBP b = (rdBu b, 0)) := Lib.hid (by unfold decBP; rw [if_neg (fun e => e h1), if_neg (by intro e; rcases e with e | e; exact e h2; exact e h4)])
        obtain ⟨n4, hn4⟩ : ∃ n4, n4 = (rdB b).1.length := ⟨_, rfl⟩
        have HL := Lib.hid h4
        clear h1 h2 h4 hn4 n4
        have hd : Below w4.heap.size w4 w4.drew := (by repeat (first | with_reducible exact Below.refl _ _ | with_reducible assumption | refine Below.drew ?_ | refine below_drewN ?_ | refine Below.alloc ?_ (by first | omega | (simp; done) | (simp; omega)) _ | refine below_setRow ?_ (by omega) _ | refine Below.setCell ?_ (by first | omega | (simp; done) | (simp; omega)) _))
        obtain ⟨A', c', he, -, hel⟩ := hk3.step hd
        injection he with e1 _ e2
        subst e1
        subst e2
        obtain ⟨ga, oa, rfl, hga, hit⟩ := hel (by rw [HL.out]; omega)
        have hkey : ∀ i, i < 4 → nthL (rdB b).1 i = keyAt (rdB b).1 i := fun i hi => by
          rw [nthL_def, keyAt, List.getD_eq_getElem?_getD, List.getElem?_eq_getElem (by rw [HL.out]; exact hi)]; rfl
        have hlen : ∀ i, (keyAt (rdB b).1 i).length = 32 := keyAt_32 (ikeysP_32 _ _)
        have ld : ∀ i, i < 4 → (loadAgg 72 (.pointer (some ⟨ga, oa + i * 32, none⟩))).run Try.prog w4.drew = .ok (.value (.agg (u8s (keyAt (rdB b).1 i)))) w4.drew := fun i hi =>
          key_load (by have := hit i (by rw [HL.out]; exact hi); rw [hkey i hi] at this; exact this) (hlen i)
        have d0 := ld 0 (by omega); have d1 := ld 1 (by omega); have d2 := ld 2 (by omega); have d3 := ld 3 (by omega)
        simp only [Nat.zero_mul, Nat.add_zero] at d0
        clear ld hit hkey hel
        go_wp2_with fail
        rw [HL.out]
        refine wp_region_tail 13 (by kernel_rfl) (by kernel_rfl) ?_
        simp only [List.take_succ_cons, List.take_zero, List.drop_succ_cons, List.drop_zero]
        have hbd : (buildK 88 #[(0, .agg (u8s (keyAt (rdB b).1 0))), (1, .agg (u8s (keyAt (rdB b).1 1))), (2, .agg (u8s (keyAt (rdB b).1 2))), (3, .agg (u8s (keyAt (rdB b).1 3)))]).run Try.prog w4.drew = .ok (.value (.agg (buC (rdBu b)))) w4.drew := buBuild4 _ _ _ _ (hlen 0) (hlen 1) (hlen 2) (hlen 3) w4.drew
        have hwf : (rdBu b).WF := ⟨hlen 0, hlen 1, hlen 2, hlen 3⟩
        have R4 : RowIs w4.drew w.heap.size (buC BuP.zero) := (HT.out ▸ R3).drew
        have hst2 := buStore w4.drew w.heap.size (rdBu b) hwf (by rw [R4.has, buC_size zero_wf])
        have hrow : rowOf (w4.setRow w.heap.size (buC (rdBu b))).drew w.heap.size = buC (rdBu b) := rowOf_setRow w4.drew _ _ R4.row
        have HROW2 := Lib.hid hrow
        clear hrow
        repeat still_step
        refine wpStill_nil ?_
        go_wp2_with fail
        have hrow := HROW2.out
        refine bodyPost_rowTmp 2 3 88 w.heap.size 128 rfl rfl (by omega) (by kernel_rfl) (by kernel_rfl) (by rw [hrow]; exact buC_size hwf) rfl ?_
        exact ⟨by rw [hrow, CK.out]; rfl, below_setRow (B3.trans (hd.mono B3.size)) (Nat.le_refl _) _⟩
      · have g2 : (n64 (rd1 b).1 != (2 : Int)) = false := by rw [h2, n64_def]; rfl
        have g3 : (((rdB b).1.length : Int) != (4 : Int)) = true := by rw [bne_iff_ne]; omega
        have CK : Hid (decBP b = (.zero, 51)) := Lib.hid (by unfold decBP; rw [if_neg (fun e => e h1), if_pos (.inr h4)])
        clear h1 h2 h4
        go_wp2_with fail
        have hrow := HROW.out
        refine bodyPost_rowTmp 2 3 88 w.heap.size 128 rfl rfl (by omega) (by kernel_rfl) (by kernel_rfl) (by rw [hrow]; exact buC_size zero_wf) rfl ?_
        exact ⟨by rw [hrow, CK.out]; rfl, below_setRow B3 (Nat.le_refl _) _⟩
    · have g2 : (n64 (rd1 b).1 != (2 : Int)) = true := by
        rw [bne_iff_ne]
        intro e
        apply h2
        apply UInt64.toNat.inj
        rw [n64_def] at e
        have : ((2 : UInt64).toNat : Int) = 2 := rfl
        omega
      have CK : Hid (decBP b = (.zero, 51)) := Lib.hid (by unfold decBP; rw [if_neg (fun e => e h1), if_pos (.inl h2)])
      clear h1 h2
      go_wp2_with fail
      have hrow := HROW.out
      refine bodyPost_rowTmp 2 3 88 w.heap.size 128 rfl rfl (by omega) (by kernel_rfl) (by kernel_rfl) (by rw [hrow]; exact buC_size zero_wf) rfl ?_
      exact ⟨by rw [hrow, CK.out]; rfl, below_setRow B3 (Nat.le_refl _) _⟩
  · have g1 : (endP (rdB b).2 != (0 : Int)) = true := by rw [bne_iff_ne]; exact h1
    have ck : decBP b = (.zero, endP (rdB b).2) := if_pos h1
    have CK := Lib.hid ck
    clear ck h1
    go_wp2_with fail
    have hrow := HROW.out
    refine bodyPost_rowTmp 2 3 88 w.heap.size 128 rfl rfl (by omega) (by kernel_rfl) (by kernel_rfl) (by rw [hrow]; exact buC_size zero_wf) rfl ?_
    exact ⟨by rw [hrow, CK.out]; rfl, below_setRow B3 (Nat.le_refl _) _⟩
end
end
end Go.Proofs.Ytifnpphkplogaaa
