/- Layer 13: the next draw, the program's and the document's. Printed by gen_drw.py. -/
import Derived.Test.YtopmdbmnlflpgaaDoorRefDer
import Derived.Test.YtopmdbmnlflpgaaDoorFloat
import Derived.Test.YtopmdbmnlflpgaaDoorPart
import Derived.Laws.ResultCell
namespace Go.Proofs.YtopmdbmnlflpgaaDoor
open Go.RowKit
theorem bodyPost_rowTmp {P : Program} {fn : Func} {R : Ending → World → Prop} {a : Act} {w : World} (p u : Tmp) (ty : TypeId) (g n : Nat) (hres : fn.results = #[.cell p ty, .tmp u])
    (hp : a.tmps.getD p undef = .pointer (some ⟨g, 0, none⟩)) (hn : 0 < n) (hu : (match P.underlying ty with | some (.struct _) | some (.array _ _) => true | _ => false) = true)
    (hi : (P.info? ty).map (·.size) = some n) (hr : (rowOf w g).size = n) (hd : a.defers = []) (hR : R (.returned (.tuple #[.agg (rowOf w g), a.tmps.getD u undef])) w) : bodyPost P fn R .ret a w := by
  obtain ⟨t, ht⟩ := rowOf_some hr hn
  cases hdd : P.underlying ty with
  | none => simp [hdd] at hu
  | some d =>
    refine bodyPost_ret ?_ hd hR
    rw [results_cell_tmp hres, hp]
    have := run_loadVar_row w g t ty _ (0, 0) d ht hdd (by rw [hdd] at hu; cases d <;> simp_all) (by rw [hi, hr])
    simp [asAddr, this, Result.andThen]
theorem MetB.set_ne {w : World} {g k : Nat} {N : Int} (h : MetB w g N) (hk : g ≠ k) (cs : Array Value) : MetB (w.setRow k cs) g N := by obtain ⟨n, h0, h1, h2⟩ := h; exact ⟨n, h0, h1, RowIs.set_ne h2 hk _⟩
theorem LogB.set_ne {w : World} {g k : Nat} {N : Int} (h : LogB w g N) (hk : g ≠ k) (cs : Array Value) : LogB (w.setRow k cs) g N := by obtain ⟨n, h0, h1, h2⟩ := h; exact ⟨n, h0, h1, RowIs.set_ne h2 hk _⟩
theorem MetB.put_ne {w : World} {g : Nat} {N : Int} {a : Addr} (h : MetB w g N) (hk : g ≠ a.block) (v : Value) : MetB (w.setCell a v) g N := by obtain ⟨n, h0, h1, h2⟩ := h; exact ⟨n, h0, h1, RowIs.put_ne h2 hk _⟩
theorem LogB.put_ne {w : World} {g : Nat} {N : Int} {a : Addr} (h : LogB w g N) (hk : g ≠ a.block) (v : Value) : LogB (w.setCell a v) g N := by obtain ⟨n, h0, h1, h2⟩ := h; exact ⟨n, h0, h1, RowIs.put_ne h2 hk _⟩
/-- all that was there stays, but for blocks g and s -/
structure Upd2 (g s : Nat) (w w' : World) : Prop where
  os : w'.os = w.os
  tape : w'.tape = w.tape
  output : w'.output = w.output
  size : w.heap.size ≤ w'.heap.size
  block : ∀ k, k < w.heap.size → k ≠ g → k ≠ s → w'.heap[k]? = w.heap[k]?
theorem Upd2.of {g s : Nat} {w w' : World} (h : Upd g w w') : Upd2 g s w w' := ⟨h.os, h.tape, h.output, h.size, fun k hk h1 _ => h.block k hk h1⟩
theorem Upd2.of' {g s : Nat} {w w' : World} (h : Upd s w w') : Upd2 g s w w' := ⟨h.os, h.tape, h.output, h.size, fun k hk _ h2 => h.block k hk h2⟩
theorem Upd2.trans {g s : Nat} {a b c : World} (h : Upd2 g s a b) (k : Upd2 g s b c) : Upd2 g s a c :=
  ⟨k.os.trans h.os, k.tape.trans h.tape, k.output.trans h.output, Nat.le_trans h.size k.size, fun i hi h1 h2 => (k.block i (Nat.lt_of_lt_of_le hi h.size) h1 h2).trans (h.block i hi h1 h2)⟩
theorem Upd2.setRow {g s : Nat} {a w : World} (h : Upd2 g s a w) {r : Nat} (hr : a.heap.size ≤ r) (cs : Array Value) : Upd2 g s a (w.setRow r cs) :=
  ⟨h.os, h.tape, h.output, by have := h.size; simp [World.setRow]; exact this, fun k hk h1 h2 => by
    have e := (below_setRow (Below.refl r w) (Nat.le_refl _) cs).block k (by omega)
    rw [e]; exact h.block k hk h1 h2⟩
theorem Upd2.put {g s : Nat} {a w : World} (h : Upd2 g s a w) (i : Nat) (v : Value) : Upd2 g s a (w.setCell ⟨s, i, none⟩ v) := h.trans (.of' ((Upd.refl s w).put i v))
theorem Upd2.then {g s : Nat} {a w w' : World} (h : Upd2 g s a w) (hb : Below w.heap.size w w') : Upd2 g s a w' := h.trans (.of (Upd.of hb))
theorem Upd2.below {g s B : Nat} {a w w' : World} (hb : Below B a w) (h : Upd2 g s w w') (hg : B ≤ g) (hs : B ≤ s) (hB : B ≤ w.heap.size) : Below B a w' :=
  hb.trans ⟨h.os, h.tape, h.output, h.size, fun k hk => h.block k (by omega) (by omega) (by omega)⟩
theorem RowIs.upd2 {w w' : World} {r g s : Nat} {cs : Array Value} (h : RowIs w r cs) (hu : Upd2 g s w w') (hg : r ≠ g) (hs : r ≠ s) : RowIs w' r cs := by
  have e := hu.block r h.lt hg hs
  exact ⟨by unfold IsRow; rw [e]; exact h.row, by unfold rowOf; rw [e]; exact h.has⟩
theorem list1_le (H : List UInt8) (h : H.length ≤ 1000) : ∀ k, k < [H].length → (nthL [H] k).length ≤ 1000 := fun k hk => by
  have hk' : k < 1 := hk
  obtain rfl : k = 0 := by omega
  simpa [nthL_def]
def srcL (key : List UInt8) (n : UInt64) : List Value := u8v key ++ [.int .u64 (n64 n)]
@[irreducible] def srcC (key : List UInt8) (n : UInt64) : Array Value := (srcL key n).toArray
theorem srcC_def (key : List UInt8) (n : UInt64) : srcC key n = (srcL key n).toArray := by unfold srcC; rfl
/-- a source: its seed, how many were drawn -/
def Src (w : World) (s : Nat) (key : List UInt8) (n : UInt64) : Prop := RowIs w s (srcC key n)
theorem srcL_length (key : List UInt8) (hkey : key.length = 32) (n : UInt64) : (srcL key n).length = 33 := by simp [srcL, u8v_length, hkey]
theorem Src.num {w : World} {s : Nat} {key : List UInt8} {n : UInt64} (h : Src w s key n) (hkey : key.length = 32) : w.cell? ⟨s, 32, none⟩ = some (.int .u64 (n64 n)) := by
  obtain ⟨t, ht⟩ := RowIs.row h |>.heap
  rw [RowIs.has h] at ht
  rw [cell_of_row _ _ 32 _ t (0, 0) ht, srcC_def, srcL]
  simp [u8v_length, hkey]
theorem Src.seed {w : World} {s : Nat} {key : List UInt8} {n : UInt64} (h : Src w s key n) (hkey : key.length = 32) : (loadAgg 33 (.pointer (some ⟨s, 0, none⟩))).run Tryd.prog w = .ok (.value (.agg (u8s key))) w := by
  have h' : RowIs w s (srcL key n).toArray := by rw [← srcC_def]; exact h
  have := run_loadAgg_mid (P := Tryd.prog) (o := 0) (n := 32) Tryd.underlying33 (by kernel_rfl) (by kernel_rfl) h' (by rw [srcL_length key hkey]; omega)
  rw [this, srcL]
  congr 3
  rw [u8s_toArray, List.drop_zero, List.take_append_of_le_length (by rw [u8v_length]; omega), List.take_of_length_le (by rw [u8v_length]; omega)]
theorem Src.put {w : World} {s : Nat} {key : List UInt8} {n : UInt64} (h : Src w s key n) (hkey : key.length = 32) (m : UInt64) : Src (w.setCell ⟨s, 32, none⟩ (.int .u64 (n64 m))) s key m := by
  have := RowIs.put h 32 (.int .u64 (n64 m))
  unfold Src
  have e : (srcC key n).setIfInBounds 32 (.int .u64 (n64 m)) = srcC key m := by
    rw [srcC_def, srcC_def, List.setIfInBounds_toArray]
    congr 1
    rw [srcL, srcL, List.set_append_right _ _ (by rw [u8v_length]; omega), u8v_length, hkey]
    rfl
  rw [← e]; exact this
theorem Src.no8' {w : World} {s : Nat} {key : List UInt8} {n : UInt64} (h : Src w s key n) : s < w.heap.size := RowIs.lt h
def nextRes (g s : Nat) (N : Int) (key : List UInt8) (n : UInt64) (K : List UInt8) (w : World) (e : Ending) (w' : World) : Prop :=
  e = .returned (.tuple #[.agg (u8s K), .int .i64 0]) ∧ Src w' s key (n + 1) ∧ MetB w' g N ∧ Upd2 g s w w'

set_option maxRecDepth 100000 in
theorem next_full (g s : Nat) (key : List UInt8) (hkey : key.length = 32) (S : ByteArray) (w : World) (hS : Src w s key 18446744073709551615) :
    Calls Tryd.prog 50 #[.pointer (some ⟨s, 0, none⟩), .pointer (some ⟨g, 0, none⟩), .string S] w fun e w' => e = .returned (.tuple #[.agg (u8s (zeros 32)), .int .i64 70]) ∧ Below w.heap.size w w' := by
  have hn := hS.num hkey
  have hz : ((n64 18446744073709551615 : Int) == 18446744073709551615) = true := by rw [n64_def]; rfl
  have hsl := hS.no8'
  go_enter Tryd.func50, Tryd.ntmps50
  go_wp2_with fail
  refine bodyPost_rowTmp 6 7 _ w.heap.size 32 rfl rfl (by omega) (by kernel_rfl) (by kernel_rfl) ?_ rfl ?_
  · go_simp
  · go_simp
    exact (by repeat (first | with_reducible exact Below.refl _ _ | with_reducible assumption | refine Below.drew ?_ | refine below_drewN ?_ | refine Below.alloc ?_ (by first | omega | (simp; done) | (simp; omega)) _ | refine below_setRow ?_ (by omega) _ | refine Below.setCell ?_ (by first | omega | (simp; done) | (simp; omega)) _))

set_option maxRecDepth 100000 in
set_option maxHeartbeats 3200000 in
theorem next_any (g s : Nat) (hgs : g ≠ s) (N : Int) (key : List UInt8) (hkey : key.length = 32) (n : UInt64) (hn : n ≠ 18446744073709551615) (lab : List UInt8) (hlab : lab.length ≤ 300) (w : World) (hm : MetB w g N) (he : ShaEnv w) (hS : Src w s key n) (hN : N ≤ 800000) :
    Calls Tryd.prog 50 #[.pointer (some ⟨s, 0, none⟩), .pointer (some ⟨g, 0, none⟩), .string ⟨lab.toArray⟩] w (nextRes g s (N + 4) key n (derB key lab [(lowB n 8).reverse]) w) := by
  obtain ⟨H, hH⟩ : ∃ H, H = (lowB n 8).reverse := ⟨_, rfl⟩
  have hHl : H.length = 8 := by rw [hH, List.length_reverse, lowB_length]
  obtain ⟨K, hK⟩ : ∃ K, K = derB key lab [H] := ⟨_, rfl⟩
  have hKl : K.length = 32 := by rw [hK, derB_length]
  have dd := fun vl (w : World) h1 h2 h3 => derive_any g N key lab hkey vl [H] w h1 h2 h3 hlab (by simp) (list1_le H (by omega)) (by omega)
  unfold MSum at dd
  rw [← hK] at dd
  have hh := fun w => high_bs n 8 (by omega) (by omega) 8 rfl w
  rw [← hH] at hh ⊢
  rw [← hK]
  obtain ⟨S, hSS⟩ : ∃ S : ByteArray, S = ⟨lab.toArray⟩ := ⟨_, rfl⟩
  rw [← hSS] at dd ⊢
  have DD := Lib.hid dd; have HH := Lib.hid hh
  clear dd hh hH hK hSS
  have hnum := hS.num hkey
  have hz : ((n64 n : Int) == 18446744073709551615) = false := by
    rw [n64_def]
    refine beq_eq_false_iff_ne.2 fun h => hn ?_
    apply UInt64.toNat_inj.1
    have : n.toNat = 18446744073709551615 := by omega
    rw [this]; rfl
  have hsl := hS.no8'
  have hgl := hm.lt
  go_enter Tryd.func50, Tryd.ntmps50
  go_wp2_with fail
  have hB : Below w.heap.size w ((w.alloc (.cells (u8s (zeros 32)) 33)).drew) := (by repeat (first | with_reducible exact Below.refl _ _ | with_reducible assumption | refine Below.drew ?_ | refine below_drewN ?_ | refine Below.alloc ?_ (by first | omega | (simp; done) | (simp; omega)) _ | refine below_setRow ?_ (by omega) _ | refine Below.setCell ?_ (by first | omega | (simp; done) | (simp; omega)) _))
  have R6 : RowIs ((w.alloc (.cells (u8s (zeros 32)) 33)).drew) w.heap.size (u8s (zeros 32)) := (RowIs.new _ _ _).drew
  replace hS := RowIs.step hS hB
  replace hm := hm.step hB
  replace he := he.step hB
  refine wp_region_lexF [] [4, 9] 13 _ (fun W => Src W s key n) rfl (by kernel_rfl) (by decide +kernel) hS (fun _ => ?_)
  generalize (w.alloc (.cells (u8s (zeros 32)) 33)).drew = x0 at hS hm R6 hB he ⊢

  (go_wp2_with (first | (refine wpLexF_here rfl ?_) | (refine wpLexF_pure (by decide) rfl (fun _ _ => ?_); go_simp; refine ⟨_, fun w9 hw9 => (by have s1 := Src.num hw9 hkey; have s2 := Src.seed hw9 hkey; go_simp; rfl), ?_⟩) | (refine wpLexF_pure0 (by decide) rfl (fun _ _ => ?_); go_simp; try go_bits)))
  refine wpLexF_loud (by decide) rfl (fun KL hKL => ?_) (fun KL hKL => ?_)
  · go_wp2_with fail
    refine (HH.out _).mono ?_
    rintro e x1 ⟨vH, rfl, hvH, hb⟩
    obtain ⟨AH, cH, rfl, -, -, -⟩ := id hvH
    rw [hHl] at hvH ⊢
    replace hS := RowIs.step hS hb
    replace R6 := R6.step hb
    replace hm := hm.step hb
    replace hB := hB.trans (hb.mono hB.size)
    replace he := he.step hb
    go_wp2_with fail
    refine hKL _ _ hS (fun _ => ?_)
    clear hb
    (go_wp2_with (first | (refine wpLexF_here rfl ?_) | (refine wpLexF_pure (by decide) rfl (fun _ _ => ?_); go_simp; refine ⟨_, fun w9 hw9 => (by have s1 := Src.num hw9 hkey; have s2 := Src.seed hw9 hkey; go_simp; rfl), ?_⟩) | (refine wpLexF_pure0 (by decide) rfl (fun _ _ => ?_); go_simp; try go_bits)))
    refine wpLexF_loud (by decide) rfl (fun KL hKL => ?_) (fun KL hKL => ?_)
    · go_wp2_with fail
      have hlg := hm.lt
      have hb : Below x1.heap.size x1 (x1.alloc (.cells #[.slice AH 8 cH] 27)) := (by repeat (first | with_reducible exact Below.refl _ _ | with_reducible assumption | refine Below.drew ?_ | refine below_drewN ?_ | refine Below.alloc ?_ (by first | omega | (simp; done) | (simp; omega)) _ | refine below_setRow ?_ (by omega) _ | refine Below.setCell ?_ (by first | omega | (simp; done) | (simp; omega)) _))
      have LL := BsL.lit1 (gg := x1.heap.size) 27 rfl hvH
      replace hS := RowIs.step hS hb
      replace R6 := R6.step hb
      replace hm := hm.step hb
      replace hB := hB.trans (hb.mono hB.size)
      replace he := he.step hb
      refine hKL _ _ hS (fun _ => ?_)
      clear hb hvH
      generalize x1.alloc (.cells #[.slice AH 8 cH] 27) = x2 at hS hm R6 hB he LL ⊢
      obtain ⟨l, hl⟩ : ∃ l, l = x1.heap.size := ⟨_, rfl⟩
      rw [← hl] at LL hlg ⊢
      clear hl
      (go_wp2_with (first | (refine wpLexF_here rfl ?_) | (refine wpLexF_pure (by decide) rfl (fun _ _ => ?_); go_simp; refine ⟨_, fun w9 hw9 => (by have s1 := Src.num hw9 hkey; have s2 := Src.seed hw9 hkey; go_simp; rfl), ?_⟩) | (refine wpLexF_pure0 (by decide) rfl (fun _ _ => ?_); go_simp; try go_bits)))
      refine wpLexF_loud (by decide) rfl (fun KL hKL => ?_) (fun KL hKL => ?_)
      · go_wp2_with fail
        refine (DD.out _ _ hm he (BsLx.of LL (by omega))).mono ?_
        rintro e x3 ⟨rfl, hm', hu⟩
        replace hS := RowIs.upd hS hu (Ne.symm hgs)
        replace R6 := R6.upd hu (by omega)
        have hU := (Upd.of (g := g) hB).trans hu
        clear hm hB LL hu he
        have hm := hm'
        clear hm'
        go_wp2_with fail
        refine hKL _ _ hS (fun _ => ?_)
        (go_wp2_with (first | (refine wpLexF_here rfl ?_) | (refine wpLexF_pure (by decide) rfl (fun _ _ => ?_); go_simp; refine ⟨_, fun w9 hw9 => (by have s1 := Src.num hw9 hkey; have s2 := Src.seed hw9 hkey; go_simp; rfl), ?_⟩) | (refine wpLexF_pure0 (by decide) rfl (fun _ _ => ?_); go_simp; try go_bits)))
        (go_wp2_with (first | (refine wpLexD_skip rfl ?_) | (refine wpLexD_pure (by decide) rfl (fun _ _ => ?_); go_simp; refine ⟨_, fun w9 hw9 => (by have s1 := Src.num hw9 hkey; have s2 := Src.seed hw9 hkey; go_simp; rfl), ?_⟩) | (refine wpLexD_pure0 (by decide) rfl (fun _ _ => ?_); go_simp; try go_bits) | (refine wpLexD_loud (by decide) rfl (fun KL hKL => ?_)) | (refine wpLexS_nil ?_) | (refine wpLexS_pure rfl (fun _ _ => ?_); go_simp; refine ⟨_, fun w9 hw9 => (by have s1 := Src.num hw9 hkey; have s2 := Src.seed hw9 hkey; go_simp; rfl), ?_⟩) | (refine wpLexS_pure0 rfl (fun _ _ => ?_); go_simp; try go_bits) | (refine wpLexS_read rfl (fun _ _ => ?_); go_simp; try go_bits) | (refine wpLexS_loud rfl (fun KL hKL => ?_))))
        have hk6 := R6.lt; have hks := RowIs.lt hS; have hkg := hm.lt
        have hb : Below x3.heap.size x3 (x3.alloc (.cells (u8s (zeros 32)) 33)) := (by repeat (first | with_reducible exact Below.refl _ _ | with_reducible assumption | refine Below.drew ?_ | refine below_drewN ?_ | refine Below.alloc ?_ (by first | omega | (simp; done) | (simp; omega)) _ | refine below_setRow ?_ (by omega) _ | refine Below.setCell ?_ (by first | omega | (simp; done) | (simp; omega)) _))
        replace hS := RowIs.step hS hb
        replace R6 := R6.step hb
        replace hm := hm.step hb
        replace hU := hU.then hb
        have RK : RowIs (x3.alloc (.cells (u8s (zeros 32)) 33)) x3.heap.size (u8s (zeros 32)) := RowIs.new _ _ _
        refine hKL _ _ hS (fun _ => ?_)
        clear hb
        generalize x3.alloc (.cells (u8s (zeros 32)) 33) = x4 at hS hm R6 hU RK ⊢
        obtain ⟨k, hk⟩ : ∃ k, k = x3.heap.size := ⟨_, rfl⟩
        rw [← hk] at RK hk6 hks hkg ⊢
        clear hk
        have hk1 := RK.has; have hk2 := RK.row; have hk3 := RK.lt
        (go_wp2_with (first | (refine wpLexD_skip rfl ?_) | (refine wpLexD_pure (by decide) rfl (fun _ _ => ?_); go_simp; refine ⟨_, fun w9 hw9 => (by have s1 := Src.num hw9 hkey; have s2 := Src.seed hw9 hkey; go_simp; rfl), ?_⟩) | (refine wpLexD_pure0 (by decide) rfl (fun _ _ => ?_); go_simp; try go_bits) | (refine wpLexD_loud (by decide) rfl (fun KL hKL => ?_)) | (refine wpLexS_nil ?_) | (refine wpLexS_pure rfl (fun _ _ => ?_); go_simp; refine ⟨_, fun w9 hw9 => (by have s1 := Src.num hw9 hkey; have s2 := Src.seed hw9 hkey; go_simp; rfl), ?_⟩) | (refine wpLexS_pure0 rfl (fun _ _ => ?_); go_simp; try go_bits) | (refine wpLexS_read rfl (fun _ _ => ?_); go_simp; try go_bits) | (refine wpLexS_loud rfl (fun KL hKL => ?_))))
        refine hKL _ _ (RowIs.set_ne hS (by omega) _) (fun _ => ?_)
        replace hS := RowIs.set_ne hS (show s ≠ k by omega) (u8s K)
        replace R6 := R6.set_ne (show w.heap.size ≠ k by omega) (u8s K)
        replace RK := RK.set (u8s K)
        replace hm := hm.set_ne (show g ≠ k by omega) (u8s K)
        replace hU := hU.setRow (show w.heap.size ≤ k by omega) (u8s K)
        clear hk1 hk2 hk3
        generalize x4.setRow k (u8s K) = z at hS R6 RK hm hU ⊢
        have hS' : Src z s key n := hS
        have hz1 := hS'.num hkey
        have hz2 := RowIs.fz hS 32
        have RKp := RK.put_ne (a := ⟨s, 32, none⟩) (show k ≠ s by omega) (.int .u64 (n64 (n + 1)))
        have R6p := R6.put_ne (a := ⟨s, 32, none⟩) (show w.heap.size ≠ s by omega) (.int .u64 (n64 (n + 1)))
        have hnx : IntKind.u64.wrap (n64 n + 1) = n64 (n + 1) := by rw [n64_def, n64_def, UInt64.toNat_add, wrap_u64]; simp
        have hk1 := RKp.has; have hk2 := RKp.row; have hk3 := RKp.lt; have hk4 := R6p.has; have hk5 := R6p.row; have hk7 := R6p.lt
        go_wp2_with (refine wpLexS_nil ?_)
        refine bodyPost_rowTmp 6 7 _ w.heap.size 32 rfl rfl (by omega) (by kernel_rfl) (by kernel_rfl) ?_ rfl ?_
        · go_simp
        · go_simp
          exact ⟨rfl, RowIs.set_ne (hS'.put hkey (n + 1)) (show s ≠ w.heap.size by omega) _, (hm.put_ne (a := ⟨s, 32, none⟩) hgs _).set_ne (show g ≠ w.heap.size by omega) _, ((Upd2.of hU).put 32 _).setRow (Nat.le_refl _) _⟩
      · go_wp2_with fail
        have hk6 := R6.lt; have hks := RowIs.lt hS; have hkg := hm.lt
        have hb : Below x2.heap.size x2 (x2.alloc (.cells (u8s (zeros 32)) 33)) := (by repeat (first | with_reducible exact Below.refl _ _ | with_reducible assumption | refine Below.drew ?_ | refine below_drewN ?_ | refine Below.alloc ?_ (by first | omega | (simp; done) | (simp; omega)) _ | refine below_setRow ?_ (by omega) _ | refine Below.setCell ?_ (by first | omega | (simp; done) | (simp; omega)) _))
        replace hS := RowIs.step hS hb
        replace R6 := R6.step hb
        replace hm := hm.step hb
        replace hB := hB.trans (hb.mono hB.size)
        replace he := he.step hb
        replace LL := LL.step hb
        have RK : RowIs (x2.alloc (.cells (u8s (zeros 32)) 33)) x2.heap.size (u8s (zeros 32)) := RowIs.new _ _ _
        refine hKL _ _ hS (fun _ => ?_)
        clear hb
        generalize x2.alloc (.cells (u8s (zeros 32)) 33) = x5 at hS hm R6 hB he LL RK ⊢
        obtain ⟨k, hk⟩ : ∃ k, k = x2.heap.size := ⟨_, rfl⟩
        rw [← hk] at RK hk6 hks hkg ⊢
        clear hk
        (go_wp2_with (first | (refine wpLexD_skip rfl ?_) | (refine wpLexD_pure (by decide) rfl (fun _ _ => ?_); go_simp; refine ⟨_, fun w9 hw9 => (by have s1 := Src.num hw9 hkey; have s2 := Src.seed hw9 hkey; go_simp; rfl), ?_⟩) | (refine wpLexD_pure0 (by decide) rfl (fun _ _ => ?_); go_simp; try go_bits) | (refine wpLexD_loud (by decide) rfl (fun KL hKL => ?_)) | (refine wpLexS_nil ?_) | (refine wpLexS_pure rfl (fun _ _ => ?_); go_simp; refine ⟨_, fun w9 hw9 => (by have s1 := Src.num hw9 hkey; have s2 := Src.seed hw9 hkey; go_simp; rfl), ?_⟩) | (refine wpLexS_pure0 rfl (fun _ _ => ?_); go_simp; try go_bits) | (refine wpLexS_read rfl (fun _ _ => ?_); go_simp; try go_bits) | (refine wpLexS_loud rfl (fun KL hKL => ?_))))
        refine (DD.out _ _ hm he (BsLx.of LL (by omega))).mono ?_
        rintro e x6 ⟨rfl, hm', hu⟩
        replace hS := RowIs.upd hS hu (Ne.symm hgs)
        replace R6 := R6.upd hu (by omega)
        replace RK := RK.upd hu (by omega)
        have hU := (Upd.of (g := g) hB).trans hu
        clear hm hB LL hu he
        have hm := hm'
        clear hm'
        go_wp2_with fail
        refine hKL _ _ hS (fun _ => ?_)
        have hk1 := RK.has; have hk2 := RK.row; have hk3 := RK.lt
        (go_wp2_with (first | (refine wpLexD_skip rfl ?_) | (refine wpLexD_pure (by decide) rfl (fun _ _ => ?_); go_simp; refine ⟨_, fun w9 hw9 => (by have s1 := Src.num hw9 hkey; have s2 := Src.seed hw9 hkey; go_simp; rfl), ?_⟩) | (refine wpLexD_pure0 (by decide) rfl (fun _ _ => ?_); go_simp; try go_bits) | (refine wpLexD_loud (by decide) rfl (fun KL hKL => ?_)) | (refine wpLexS_nil ?_) | (refine wpLexS_pure rfl (fun _ _ => ?_); go_simp; refine ⟨_, fun w9 hw9 => (by have s1 := Src.num hw9 hkey; have s2 := Src.seed hw9 hkey; go_simp; rfl), ?_⟩) | (refine wpLexS_pure0 rfl (fun _ _ => ?_); go_simp; try go_bits) | (refine wpLexS_read rfl (fun _ _ => ?_); go_simp; try go_bits) | (refine wpLexS_loud rfl (fun KL hKL => ?_))))
        refine hKL _ _ (RowIs.set_ne hS (by omega) _) (fun _ => ?_)
        replace hS := RowIs.set_ne hS (show s ≠ k by omega) (u8s K)
        replace R6 := R6.set_ne (show w.heap.size ≠ k by omega) (u8s K)
        replace RK := RK.set (u8s K)
        replace hm := hm.set_ne (show g ≠ k by omega) (u8s K)
        replace hU := hU.setRow (show w.heap.size ≤ k by omega) (u8s K)
        clear hk1 hk2 hk3
        generalize x6.setRow k (u8s K) = z at hS R6 RK hm hU ⊢
        have hS' : Src z s key n := hS
        have hz1 := hS'.num hkey
        have hz2 := RowIs.fz hS 32
        have RKp := RK.put_ne (a := ⟨s, 32, none⟩) (show k ≠ s by omega) (.int .u64 (n64 (n + 1)))
        have R6p := R6.put_ne (a := ⟨s, 32, none⟩) (show w.heap.size ≠ s by omega) (.int .u64 (n64 (n + 1)))
        have hnx : IntKind.u64.wrap (n64 n + 1) = n64 (n + 1) := by rw [n64_def, n64_def, UInt64.toNat_add, wrap_u64]; simp
        have hk1 := RKp.has; have hk2 := RKp.row; have hk3 := RKp.lt; have hk4 := R6p.has; have hk5 := R6p.row; have hk7 := R6p.lt
        go_wp2_with (refine wpLexS_nil ?_)
        refine bodyPost_rowTmp 6 7 _ w.heap.size 32 rfl rfl (by omega) (by kernel_rfl) (by kernel_rfl) ?_ rfl ?_
        · go_simp
        · go_simp
          exact ⟨rfl, RowIs.set_ne (hS'.put hkey (n + 1)) (show s ≠ w.heap.size by omega) _, (hm.put_ne (a := ⟨s, 32, none⟩) hgs _).set_ne (show g ≠ w.heap.size by omega) _, ((Upd2.of hU).put 32 _).setRow (Nat.le_refl _) _⟩
    · go_wp2_with fail
      have hk6 := R6.lt; have hks := RowIs.lt hS; have hkg := hm.lt
      have hb : Below x1.heap.size x1 (x1.alloc (.cells (u8s (zeros 32)) 33)) := (by repeat (first | with_reducible exact Below.refl _ _ | with_reducible assumption | refine Below.drew ?_ | refine below_drewN ?_ | refine Below.alloc ?_ (by first | omega | (simp; done) | (simp; omega)) _ | refine below_setRow ?_ (by omega) _ | refine Below.setCell ?_ (by first | omega | (simp; done) | (simp; omega)) _))
      replace hS := RowIs.step hS hb
      replace R6 := R6.step hb
      replace hm := hm.step hb
      replace hB := hB.trans (hb.mono hB.size)
      replace he := he.step hb
      replace hvH := hvH.step hb
      have RK : RowIs (x1.alloc (.cells (u8s (zeros 32)) 33)) x1.heap.size (u8s (zeros 32)) := RowIs.new _ _ _
      refine hKL _ _ hS (fun _ => ?_)
      clear hb
      generalize x1.alloc (.cells (u8s (zeros 32)) 33) = x7 at hS hm R6 hB he hvH RK ⊢
      obtain ⟨k, hk⟩ : ∃ k, k = x1.heap.size := ⟨_, rfl⟩
      rw [← hk] at RK hk6 hks hkg ⊢
      clear hk
      (go_wp2_with (first | (refine wpLexD_skip rfl ?_) | (refine wpLexD_pure (by decide) rfl (fun _ _ => ?_); go_simp; refine ⟨_, fun w9 hw9 => (by have s1 := Src.num hw9 hkey; have s2 := Src.seed hw9 hkey; go_simp; rfl), ?_⟩) | (refine wpLexD_pure0 (by decide) rfl (fun _ _ => ?_); go_simp; try go_bits) | (refine wpLexD_loud (by decide) rfl (fun KL hKL => ?_)) | (refine wpLexS_nil ?_) | (refine wpLexS_pure rfl (fun _ _ => ?_); go_simp; refine ⟨_, fun w9 hw9 => (by have s1 := Src.num hw9 hkey; have s2 := Src.seed hw9 hkey; go_simp; rfl), ?_⟩) | (refine wpLexS_pure0 rfl (fun _ _ => ?_); go_simp; try go_bits) | (refine wpLexS_read rfl (fun _ _ => ?_); go_simp; try go_bits) | (refine wpLexS_loud rfl (fun KL hKL => ?_))))
      have hlg := hm.lt
      have hb : Below x7.heap.size x7 (x7.alloc (.cells #[.slice AH 8 cH] 27)) := (by repeat (first | with_reducible exact Below.refl _ _ | with_reducible assumption | refine Below.drew ?_ | refine below_drewN ?_ | refine Below.alloc ?_ (by first | omega | (simp; done) | (simp; omega)) _ | refine below_setRow ?_ (by omega) _ | refine Below.setCell ?_ (by first | omega | (simp; done) | (simp; omega)) _))
      have LL := BsL.lit1 (gg := x7.heap.size) 27 rfl hvH
      replace hS := RowIs.step hS hb
      replace R6 := R6.step hb
      replace hm := hm.step hb
      replace hB := hB.trans (hb.mono hB.size)
      replace he := he.step hb
      replace RK := RK.step hb
      refine hKL _ _ hS (fun _ => ?_)
      clear hb hvH
      generalize x7.alloc (.cells #[.slice AH 8 cH] 27) = x8 at hS hm R6 hB he LL RK ⊢
      obtain ⟨l, hl⟩ : ∃ l, l = x7.heap.size := ⟨_, rfl⟩
      rw [← hl] at LL hlg ⊢
      clear hl
      (go_wp2_with (first | (refine wpLexD_skip rfl ?_) | (refine wpLexD_pure (by decide) rfl (fun _ _ => ?_); go_simp; refine ⟨_, fun w9 hw9 => (by have s1 := Src.num hw9 hkey; have s2 := Src.seed hw9 hkey; go_simp; rfl), ?_⟩) | (refine wpLexD_pure0 (by decide) rfl (fun _ _ => ?_); go_simp; try go_bits) | (refine wpLexD_loud (by decide) rfl (fun KL hKL => ?_)) | (refine wpLexS_nil ?_) | (refine wpLexS_pure rfl (fun _ _ => ?_); go_simp; refine ⟨_, fun w9 hw9 => (by have s1 := Src.num hw9 hkey; have s2 := Src.seed hw9 hkey; go_simp; rfl), ?_⟩) | (refine wpLexS_pure0 rfl (fun _ _ => ?_); go_simp; try go_bits) | (refine wpLexS_read rfl (fun _ _ => ?_); go_simp; try go_bits) | (refine wpLexS_loud rfl (fun KL hKL => ?_))))
      refine (DD.out _ _ hm he (BsLx.of LL (by omega))).mono ?_
      rintro e x9 ⟨rfl, hm', hu⟩
      replace hS := RowIs.upd hS hu (Ne.symm hgs)
      replace R6 := R6.upd hu (by omega)
      replace RK := RK.upd hu (by omega)
      have hU := (Upd.of (g := g) hB).trans hu
      clear hm hB LL hu he
      have hm := hm'
      clear hm'
      go_wp2_with fail
      refine hKL _ _ hS (fun _ => ?_)
      have hk1 := RK.has; have hk2 := RK.row; have hk3 := RK.lt
      (go_wp2_with (first | (refine wpLexD_skip rfl ?_) | (refine wpLexD_pure (by decide) rfl (fun _ _ => ?_); go_simp; refine ⟨_, fun w9 hw9 => (by have s1 := Src.num hw9 hkey; have s2 := Src.seed hw9 hkey; go_simp; rfl), ?_⟩) | (refine wpLexD_pure0 (by decide) rfl (fun _ _ => ?_); go_simp; try go_bits) | (refine wpLexD_loud (by decide) rfl (fun KL hKL => ?_)) | (refine wpLexS_nil ?_) | (refine wpLexS_pure rfl (fun _ _ => ?_); go_simp; refine ⟨_, fun w9 hw9 => (by have s1 := Src.num hw9 hkey; have s2 := Src.seed hw9 hkey; go_simp; rfl), ?_⟩) | (refine wpLexS_pure0 rfl (fun _ _ => ?_); go_simp; try go_bits) | (refine wpLexS_read rfl (fun _ _ => ?_); go_simp; try go_bits) | (refine wpLexS_loud rfl (fun KL hKL => ?_))))
      refine hKL _ _ (RowIs.set_ne hS (by omega) _) (fun _ => ?_)
      replace hS := RowIs.set_ne hS (show s ≠ k by omega) (u8s K)
      replace R6 := R6.set_ne (show w.heap.size ≠ k by omega) (u8s K)
      replace RK := RK.set (u8s K)
      replace hm := hm.set_ne (show g ≠ k by omega) (u8s K)
      replace hU := hU.setRow (show w.heap.size ≤ k by omega) (u8s K)
      clear hk1 hk2 hk3
      generalize x9.setRow k (u8s K) = z at hS R6 RK hm hU ⊢
      have hS' : Src z s key n := hS
      have hz1 := hS'.num hkey
      have hz2 := RowIs.fz hS 32
      have RKp := RK.put_ne (a := ⟨s, 32, none⟩) (show k ≠ s by omega) (.int .u64 (n64 (n + 1)))
      have R6p := R6.put_ne (a := ⟨s, 32, none⟩) (show w.heap.size ≠ s by omega) (.int .u64 (n64 (n + 1)))
      have hnx : IntKind.u64.wrap (n64 n + 1) = n64 (n + 1) := by rw [n64_def, n64_def, UInt64.toNat_add, wrap_u64]; simp
      have hk1 := RKp.has; have hk2 := RKp.row; have hk3 := RKp.lt; have hk4 := R6p.has; have hk5 := R6p.row; have hk7 := R6p.lt
      go_wp2_with (refine wpLexS_nil ?_)
      refine bodyPost_rowTmp 6 7 _ w.heap.size 32 rfl rfl (by omega) (by kernel_rfl) (by kernel_rfl) ?_ rfl ?_
      · go_simp
      · go_simp
        exact ⟨rfl, RowIs.set_ne (hS'.put hkey (n + 1)) (show s ≠ w.heap.size by omega) _, (hm.put_ne (a := ⟨s, 32, none⟩) hgs _).set_ne (show g ≠ w.heap.size by omega) _, ((Upd2.of hU).put 32 _).setRow (Nat.le_refl _) _⟩
  · go_wp2_with fail
    have hk6 := R6.lt; have hks := RowIs.lt hS; have hkg := hm.lt
    have hb : Below x0.heap.size x0 (x0.alloc (.cells (u8s (zeros 32)) 33)) := (by repeat (first | with_reducible exact Below.refl _ _ | with_reducible assumption | refine Below.drew ?_ | refine below_drewN ?_ | refine Below.alloc ?_ (by first | omega | (simp; done) | (simp; omega)) _ | refine below_setRow ?_ (by omega) _ | refine Below.setCell ?_ (by first | omega | (simp; done) | (simp; omega)) _))
    replace hS := RowIs.step hS hb
    replace R6 := R6.step hb
    replace hm := hm.step hb
    replace hB := hB.trans (hb.mono hB.size)
    replace he := he.step hb
    have RK : RowIs (x0.alloc (.cells (u8s (zeros 32)) 33)) x0.heap.size (u8s (zeros 32)) := RowIs.new _ _ _
    refine hKL _ _ hS (fun _ => ?_)
    clear hb
    generalize x0.alloc (.cells (u8s (zeros 32)) 33) = x10 at hS hm R6 hB he RK ⊢
    obtain ⟨k, hk⟩ : ∃ k, k = x0.heap.size := ⟨_, rfl⟩
    rw [← hk] at RK hk6 hks hkg ⊢
    clear hk
    (go_wp2_with (first | (refine wpLexD_skip rfl ?_) | (refine wpLexD_pure (by decide) rfl (fun _ _ => ?_); go_simp; refine ⟨_, fun w9 hw9 => (by have s1 := Src.num hw9 hkey; have s2 := Src.seed hw9 hkey; go_simp; rfl), ?_⟩) | (refine wpLexD_pure0 (by decide) rfl (fun _ _ => ?_); go_simp; try go_bits) | (refine wpLexD_loud (by decide) rfl (fun KL hKL => ?_)) | (refine wpLexS_nil ?_) | (refine wpLexS_pure rfl (fun _ _ => ?_); go_simp; refine ⟨_, fun w9 hw9 => (by have s1 := Src.num hw9 hkey; have s2 := Src.seed hw9 hkey; go_simp; rfl), ?_⟩) | (refine wpLexS_pure0 rfl (fun _ _ => ?_); go_simp; try go_bits) | (refine wpLexS_read rfl (fun _ _ => ?_); go_simp; try go_bits) | (refine wpLexS_loud rfl (fun KL hKL => ?_))))
    refine (HH.out _).mono ?_
    rintro e x11 ⟨vH, rfl, hvH, hb⟩
    obtain ⟨AH, cH, rfl, -, -, -⟩ := id hvH
    rw [hHl] at hvH ⊢
    replace hS := RowIs.step hS hb
    replace R6 := R6.step hb
    replace hm := hm.step hb
    replace hB := hB.trans (hb.mono hB.size)
    replace he := he.step hb
    replace RK := RK.step hb
    go_wp2_with fail
    refine hKL _ _ hS (fun _ => ?_)
    clear hb
    (go_wp2_with (first | (refine wpLexD_skip rfl ?_) | (refine wpLexD_pure (by decide) rfl (fun _ _ => ?_); go_simp; refine ⟨_, fun w9 hw9 => (by have s1 := Src.num hw9 hkey; have s2 := Src.seed hw9 hkey; go_simp; rfl), ?_⟩) | (refine wpLexD_pure0 (by decide) rfl (fun _ _ => ?_); go_simp; try go_bits) | (refine wpLexD_loud (by decide) rfl (fun KL hKL => ?_)) | (refine wpLexS_nil ?_) | (refine wpLexS_pure rfl (fun _ _ => ?_); go_simp; refine ⟨_, fun w9 hw9 => (by have s1 := Src.num hw9 hkey; have s2 := Src.seed hw9 hkey; go_simp; rfl), ?_⟩) | (refine wpLexS_pure0 rfl (fun _ _ => ?_); go_simp; try go_bits) | (refine wpLexS_read rfl (fun _ _ => ?_); go_simp; try go_bits) | (refine wpLexS_loud rfl (fun KL hKL => ?_))))
    have hlg := hm.lt
    have hb : Below x11.heap.size x11 (x11.alloc (.cells #[.slice AH 8 cH] 27)) := (by repeat (first | with_reducible exact Below.refl _ _ | with_reducible assumption | refine Below.drew ?_ | refine below_drewN ?_ | refine Below.alloc ?_ (by first | omega | (simp; done) | (simp; omega)) _ | refine below_setRow ?_ (by omega) _ | refine Below.setCell ?_ (by first | omega | (simp; done) | (simp; omega)) _))
    have LL := BsL.lit1 (gg := x11.heap.size) 27 rfl hvH
    replace hS := RowIs.step hS hb
    replace R6 := R6.step hb
    replace hm := hm.step hb
    replace hB := hB.trans (hb.mono hB.size)
    replace he := he.step hb
    replace RK := RK.step hb
    refine hKL _ _ hS (fun _ => ?_)
    clear hb hvH
    generalize x11.alloc (.cells #[.slice AH 8 cH] 27) = x12 at hS hm R6 hB he LL RK ⊢
    obtain ⟨l, hl⟩ : ∃ l, l = x11.heap.size := ⟨_, rfl⟩
    rw [← hl] at LL hlg ⊢
    clear hl
    (go_wp2_with (first | (refine wpLexD_skip rfl ?_) | (refine wpLexD_pure (by decide) rfl (fun _ _ => ?_); go_simp; refine ⟨_, fun w9 hw9 => (by have s1 := Src.num hw9 hkey; have s2 := Src.seed hw9 hkey; go_simp; rfl), ?_⟩) | (refine wpLexD_pure0 (by decide) rfl (fun _ _ => ?_); go_simp; try go_bits) | (refine wpLexD_loud (by decide) rfl (fun KL hKL => ?_)) | (refine wpLexS_nil ?_) | (refine wpLexS_pure rfl (fun _ _ => ?_); go_simp; refine ⟨_, fun w9 hw9 => (by have s1 := Src.num hw9 hkey; have s2 := Src.seed hw9 hkey; go_simp; rfl), ?_⟩) | (refine wpLexS_pure0 rfl (fun _ _ => ?_); go_simp; try go_bits) | (refine wpLexS_read rfl (fun _ _ => ?_); go_simp; try go_bits) | (refine wpLexS_loud rfl (fun KL hKL => ?_))))
    refine (DD.out _ _ hm he (BsLx.of LL (by omega))).mono ?_
    rintro e x13 ⟨rfl, hm', hu⟩
    replace hS := RowIs.upd hS hu (Ne.symm hgs)
    replace R6 := R6.upd hu (by omega)
    replace RK := RK.upd hu (by omega)
    have hU := (Upd.of (g := g) hB).trans hu
    clear hm hB LL hu he
    have hm := hm'
    clear hm'
    go_wp2_with fail
    refine hKL _ _ hS (fun _ => ?_)
    have hk1 := RK.has; have hk2 := RK.row; have hk3 := RK.lt
    (go_wp2_with (first | (refine wpLexD_skip rfl ?_) | (refine wpLexD_pure (by decide) rfl (fun _ _ => ?_); go_simp; refine ⟨_, fun w9 hw9 => (by have s1 := Src.num hw9 hkey; have s2 := Src.seed hw9 hkey; go_simp; rfl), ?_⟩) | (refine wpLexD_pure0 (by decide) rfl (fun _ _ => ?_); go_simp; try go_bits) | (refine wpLexD_loud (by decide) rfl (fun KL hKL => ?_)) | (refine wpLexS_nil ?_) | (refine wpLexS_pure rfl (fun _ _ => ?_); go_simp; refine ⟨_, fun w9 hw9 => (by have s1 := Src.num hw9 hkey; have s2 := Src.seed hw9 hkey; go_simp; rfl), ?_⟩) | (refine wpLexS_pure0 rfl (fun _ _ => ?_); go_simp; try go_bits) | (refine wpLexS_read rfl (fun _ _ => ?_); go_simp; try go_bits) | (refine wpLexS_loud rfl (fun KL hKL => ?_))))
    refine hKL _ _ (RowIs.set_ne hS (by omega) _) (fun _ => ?_)
    replace hS := RowIs.set_ne hS (show s ≠ k by omega) (u8s K)
    replace R6 := R6.set_ne (show w.heap.size ≠ k by omega) (u8s K)
    replace RK := RK.set (u8s K)
    replace hm := hm.set_ne (show g ≠ k by omega) (u8s K)
    replace hU := hU.setRow (show w.heap.size ≤ k by omega) (u8s K)
    clear hk1 hk2 hk3
    generalize x13.setRow k (u8s K) = z at hS R6 RK hm hU ⊢
    have hS' : Src z s key n := hS
    have hz1 := hS'.num hkey
    have hz2 := RowIs.fz hS 32
    have RKp := RK.put_ne (a := ⟨s, 32, none⟩) (show k ≠ s by omega) (.int .u64 (n64 (n + 1)))
    have R6p := R6.put_ne (a := ⟨s, 32, none⟩) (show w.heap.size ≠ s by omega) (.int .u64 (n64 (n + 1)))
    have hnx : IntKind.u64.wrap (n64 n + 1) = n64 (n + 1) := by rw [n64_def, n64_def, UInt64.toNat_add, wrap_u64]; simp
    have hk1 := RKp.has; have hk2 := RKp.row; have hk3 := RKp.lt; have hk4 := R6p.has; have hk5 := R6p.row; have hk7 := R6p.lt
    go_wp2_with (refine wpLexS_nil ?_)
    refine bodyPost_rowTmp 6 7 _ w.heap.size 32 rfl rfl (by omega) (by kernel_rfl) (by kernel_rfl) ?_ rfl ?_
    · go_simp
    · go_simp
      exact ⟨rfl, RowIs.set_ne (hS'.put hkey (n + 1)) (show s ≠ w.heap.size by omega) _, (hm.put_ne (a := ⟨s, 32, none⟩) hgs _).set_ne (show g ≠ w.heap.size by omega) _, ((Upd2.of hU).put 32 _).setRow (Nat.le_refl _) _⟩
def refNextRes (g s : Nat) (N : Int) (key : List UInt8) (n : UInt64) (K : List UInt8) (w : World) (e : Ending) (w' : World) : Prop :=
  e = .returned (.tuple #[.agg (u8s K), .int .i64 0]) ∧ Src w' s key (n + 1) ∧ LogB w' g N ∧ Upd2 g s w w'

set_option maxRecDepth 100000 in
theorem refNext_full (g s : Nat) (key : List UInt8) (hkey : key.length = 32) (S : ByteArray) (w : World) (hS : Src w s key 18446744073709551615) :
    Calls Tryd.prog 51 #[.pointer (some ⟨s, 0, none⟩), .pointer (some ⟨g, 0, none⟩), .string S] w fun e w' => e = .returned (.tuple #[.agg (u8s (zeros 32)), .int .i64 70]) ∧ Below w.heap.size w w' := by
  have hn := hS.num hkey
  have hz : ((n64 18446744073709551615 : Int) == 18446744073709551615) = true := by rw [n64_def]; rfl
  have hsl := hS.no8'
  go_enter Tryd.func51, Tryd.ntmps51
  go_wp2_with fail
  refine bodyPost_rowTmp 6 7 _ w.heap.size 32 rfl rfl (by omega) (by kernel_rfl) (by kernel_rfl) ?_ rfl ?_
  · go_simp
  · go_simp
    exact (by repeat (first | with_reducible exact Below.refl _ _ | with_reducible assumption | refine Below.drew ?_ | refine below_drewN ?_ | refine Below.alloc ?_ (by first | omega | (simp; done) | (simp; omega)) _ | refine below_setRow ?_ (by omega) _ | refine Below.setCell ?_ (by first | omega | (simp; done) | (simp; omega)) _))

set_option maxRecDepth 100000 in
set_option maxHeartbeats 3200000 in
theorem refNext_any (g s : Nat) (hgs : g ≠ s) (N : Int) (key : List UInt8) (hkey : key.length = 32) (n : UInt64) (hn : n ≠ 18446744073709551615) (lab : List UInt8) (hlab : lab.length ≤ 300) (w : World) (hm : LogB w g N) (hS : Src w s key n) (hN : N ≤ 800000) :
    Calls Tryd.prog 51 #[.pointer (some ⟨s, 0, none⟩), .pointer (some ⟨g, 0, none⟩), .string ⟨lab.toArray⟩] w (refNextRes g s (N + 3) key n (derB key lab [(lowB n 8).reverse]) w) := by
  obtain ⟨H, hH⟩ : ∃ H, H = (lowB n 8).reverse := ⟨_, rfl⟩
  have hHl : H.length = 8 := by rw [hH, List.length_reverse, lowB_length]
  obtain ⟨K, hK⟩ : ∃ K, K = derB key lab [H] := ⟨_, rfl⟩
  have hKl : K.length = 32 := by rw [hK, derB_length]
  have dd := fun vl (w : World) h1 h3 => refderive_any g N key lab hkey vl [H] w h1 h3 hlab (by simp) (list1_le H (by omega)) (by omega)
  unfold LSum at dd
  rw [← hK] at dd
  have hh := fun w => refHigh_bs n 8 (by omega) 8 rfl w
  rw [← hH] at hh ⊢
  rw [← hK]
  obtain ⟨S, hSS⟩ : ∃ S : ByteArray, S = ⟨lab.toArray⟩ := ⟨_, rfl⟩
  rw [← hSS] at dd ⊢
  have DD := Lib.hid dd; have HH := Lib.hid hh
  clear dd hh hH hK hSS
  have hnum := hS.num hkey
  have hz : ((n64 n : Int) == 18446744073709551615) = false := by
    rw [n64_def]
    refine beq_eq_false_iff_ne.2 fun h => hn ?_
    apply UInt64.toNat_inj.1
    have : n.toNat = 18446744073709551615 := by omega
    rw [this]; rfl
  have hsl := hS.no8'
  have hgl := hm.lt
  go_enter Tryd.func51, Tryd.ntmps51
  go_wp2_with fail
  have hB : Below w.heap.size w ((w.alloc (.cells (u8s (zeros 32)) 33)).drew) := (by repeat (first | with_reducible exact Below.refl _ _ | with_reducible assumption | refine Below.drew ?_ | refine below_drewN ?_ | refine Below.alloc ?_ (by first | omega | (simp; done) | (simp; omega)) _ | refine below_setRow ?_ (by omega) _ | refine Below.setCell ?_ (by first | omega | (simp; done) | (simp; omega)) _))
  have R6 : RowIs ((w.alloc (.cells (u8s (zeros 32)) 33)).drew) w.heap.size (u8s (zeros 32)) := (RowIs.new _ _ _).drew
  replace hS := RowIs.step hS hB
  replace hm := hm.step hB
  
  refine wp_region_lexF [] [4, 9] 13 _ (fun W => Src W s key n) rfl (by kernel_rfl) (by decide +kernel) hS (fun _ => ?_)
  generalize (w.alloc (.cells (u8s (zeros 32)) 33)).drew = x0 at hS hm R6 hB ⊢

  (go_wp2_with (first | (refine wpLexF_here rfl ?_) | (refine wpLexF_pure (by decide) rfl (fun _ _ => ?_); go_simp; refine ⟨_, fun w9 hw9 => (by have s1 := Src.num hw9 hkey; have s2 := Src.seed hw9 hkey; go_simp; rfl), ?_⟩) | (refine wpLexF_pure0 (by decide) rfl (fun _ _ => ?_); go_simp; try go_bits)))
  refine wpLexF_loud (by decide) rfl (fun KL hKL => ?_) (fun KL hKL => ?_)
  · go_wp2_with fail
    refine (HH.out _).mono ?_
    rintro e x1 ⟨vH, rfl, hvH, hb⟩
    obtain ⟨AH, cH, rfl, -, -, -⟩ := id hvH
    rw [hHl] at hvH ⊢
    replace hS := RowIs.step hS hb
    replace R6 := R6.step hb
    replace hm := hm.step hb
    replace hB := hB.trans (hb.mono hB.size)
    go_wp2_with fail
    refine hKL _ _ hS (fun _ => ?_)
    clear hb
    (go_wp2_with (first | (refine wpLexF_here rfl ?_) | (refine wpLexF_pure (by decide) rfl (fun _ _ => ?_); go_simp; refine ⟨_, fun w9 hw9 => (by have s1 := Src.num hw9 hkey; have s2 := Src.seed hw9 hkey; go_simp; rfl), ?_⟩) | (refine wpLexF_pure0 (by decide) rfl (fun _ _ => ?_); go_simp; try go_bits)))
    refine wpLexF_loud (by decide) rfl (fun KL hKL => ?_) (fun KL hKL => ?_)
    · go_wp2_with fail
      have hlg := hm.lt
      have hb : Below x1.heap.size x1 (x1.alloc (.cells #[.slice AH 8 cH] 27)) := (by repeat (first | with_reducible exact Below.refl _ _ | with_reducible assumption | refine Below.drew ?_ | refine below_drewN ?_ | refine Below.alloc ?_ (by first | omega | (simp; done) | (simp; omega)) _ | refine below_setRow ?_ (by omega) _ | refine Below.setCell ?_ (by first | omega | (simp; done) | (simp; omega)) _))
      have LL := BsL.lit1 (gg := x1.heap.size) 27 rfl hvH
      replace hS := RowIs.step hS hb
      replace R6 := R6.step hb
      replace hm := hm.step hb
      replace hB := hB.trans (hb.mono hB.size)
      refine hKL _ _ hS (fun _ => ?_)
      clear hb hvH
      generalize x1.alloc (.cells #[.slice AH 8 cH] 27) = x2 at hS hm R6 hB LL ⊢
      obtain ⟨l, hl⟩ : ∃ l, l = x1.heap.size := ⟨_, rfl⟩
      rw [← hl] at LL hlg ⊢
      clear hl
      (go_wp2_with (first | (refine wpLexF_here rfl ?_) | (refine wpLexF_pure (by decide) rfl (fun _ _ => ?_); go_simp; refine ⟨_, fun w9 hw9 => (by have s1 := Src.num hw9 hkey; have s2 := Src.seed hw9 hkey; go_simp; rfl), ?_⟩) | (refine wpLexF_pure0 (by decide) rfl (fun _ _ => ?_); go_simp; try go_bits)))
      refine wpLexF_loud (by decide) rfl (fun KL hKL => ?_) (fun KL hKL => ?_)
      · go_wp2_with fail
        refine (DD.out _ _ hm LL).mono ?_
        rintro e x3 ⟨rfl, hm', hu⟩
        replace hS := RowIs.upd hS hu (Ne.symm hgs)
        replace R6 := R6.upd hu (by omega)
        have hU := (Upd.of (g := g) hB).trans hu
        clear hm hB LL hu
        have hm := hm'
        clear hm'
        go_wp2_with fail
        refine hKL _ _ hS (fun _ => ?_)
        (go_wp2_with (first | (refine wpLexF_here rfl ?_) | (refine wpLexF_pure (by decide) rfl (fun _ _ => ?_); go_simp; refine ⟨_, fun w9 hw9 => (by have s1 := Src.num hw9 hkey; have s2 := Src.seed hw9 hkey; go_simp; rfl), ?_⟩) | (refine wpLexF_pure0 (by decide) rfl (fun _ _ => ?_); go_simp; try go_bits)))
        (go_wp2_with (first | (refine wpLexD_skip rfl ?_) | (refine wpLexD_pure (by decide) rfl (fun _ _ => ?_); go_simp; refine ⟨_, fun w9 hw9 => (by have s1 := Src.num hw9 hkey; have s2 := Src.seed hw9 hkey; go_simp; rfl), ?_⟩) | (refine wpLexD_pure0 (by decide) rfl (fun _ _ => ?_); go_simp; try go_bits) | (refine wpLexD_loud (by decide) rfl (fun KL hKL => ?_)) | (refine wpLexS_nil ?_) | (refine wpLexS_pure rfl (fun _ _ => ?_); go_simp; refine ⟨_, fun w9 hw9 => (by have s1 := Src.num hw9 hkey; have s2 := Src.seed hw9 hkey; go_simp; rfl), ?_⟩) | (refine wpLexS_pure0 rfl (fun _ _ => ?_); go_simp; try go_bits) | (refine wpLexS_read rfl (fun _ _ => ?_); go_simp; try go_bits) | (refine wpLexS_loud rfl (fun KL hKL => ?_))))
        have hk6 := R6.lt; have hks := RowIs.lt hS; have hkg := hm.lt
        have hb : Below x3.heap.size x3 (x3.alloc (.cells (u8s (zeros 32)) 33)) := (by repeat (first | with_reducible exact Below.refl _ _ | with_reducible assumption | refine Below.drew ?_ | refine below_drewN ?_ | refine Below.alloc ?_ (by first | omega | (simp; done) | (simp; omega)) _ | refine below_setRow ?_ (by omega) _ | refine Below.setCell ?_ (by first | omega | (simp; done) | (simp; omega)) _))
        replace hS := RowIs.step hS hb
        replace R6 := R6.step hb
        replace hm := hm.step hb
        replace hU := hU.then hb
        have RK : RowIs (x3.alloc (.cells (u8s (zeros 32)) 33)) x3.heap.size (u8s (zeros 32)) := RowIs.new _ _ _
        refine hKL _ _ hS (fun _ => ?_)
        clear hb
        generalize x3.alloc (.cells (u8s (zeros 32)) 33) = x4 at hS hm R6 hU RK ⊢
        obtain ⟨k, hk⟩ : ∃ k, k = x3.heap.size := ⟨_, rfl⟩
        rw [← hk] at RK hk6 hks hkg ⊢
        clear hk
        have hk1 := RK.has; have hk2 := RK.row; have hk3 := RK.lt
        (go_wp2_with (first | (refine wpLexD_skip rfl ?_) | (refine wpLexD_pure (by decide) rfl (fun _ _ => ?_); go_simp; refine ⟨_, fun w9 hw9 => (by have s1 := Src.num hw9 hkey; have s2 := Src.seed hw9 hkey; go_simp; rfl), ?_⟩) | (refine wpLexD_pure0 (by decide) rfl (fun _ _ => ?_); go_simp; try go_bits) | (refine wpLexD_loud (by decide) rfl (fun KL hKL => ?_)) | (refine wpLexS_nil ?_) | (refine wpLexS_pure rfl (fun _ _ => ?_); go_simp; refine ⟨_, fun w9 hw9 => (by have s1 := Src.num hw9 hkey; have s2 := Src.seed hw9 hkey; go_simp; rfl), ?_⟩) | (refine wpLexS_pure0 rfl (fun _ _ => ?_); go_simp; try go_bits) | (refine wpLexS_read rfl (fun _ _ => ?_); go_simp; try go_bits) | (refine wpLexS_loud rfl (fun KL hKL => ?_))))
        refine hKL _ _ (RowIs.set_ne hS (by omega) _) (fun _ => ?_)
        replace hS := RowIs.set_ne hS (show s ≠ k by omega) (u8s K)
        replace R6 := R6.set_ne (show w.heap.size ≠ k by omega) (u8s K)
        replace RK := RK.set (u8s K)
        replace hm := hm.set_ne (show g ≠ k by omega) (u8s K)
        replace hU := hU.setRow (show w.heap.size ≤ k by omega) (u8s K)
        clear hk1 hk2 hk3
        generalize x4.setRow k (u8s K) = z at hS R6 RK hm hU ⊢
        have hS' : Src z s key n := hS
        have hz1 := hS'.num hkey
        have hz2 := RowIs.fz hS 32
        have RKp := RK.put_ne (a := ⟨s, 32, none⟩) (show k ≠ s by omega) (.int .u64 (n64 (n + 1)))
        have R6p := R6.put_ne (a := ⟨s, 32, none⟩) (show w.heap.size ≠ s by omega) (.int .u64 (n64 (n + 1)))
        have hnx : IntKind.u64.wrap (n64 n + 1) = n64 (n + 1) := by rw [n64_def, n64_def, UInt64.toNat_add, wrap_u64]; simp
        have hk1 := RKp.has; have hk2 := RKp.row; have hk3 := RKp.lt; have hk4 := R6p.has; have hk5 := R6p.row; have hk7 := R6p.lt
        go_wp2_with (refine wpLexS_nil ?_)
        refine bodyPost_rowTmp 6 7 _ w.heap.size 32 rfl rfl (by omega) (by kernel_rfl) (by kernel_rfl) ?_ rfl ?_
        · go_simp
        · go_simp
          exact ⟨rfl, RowIs.set_ne (hS'.put hkey (n + 1)) (show s ≠ w.heap.size by omega) _, (hm.put_ne (a := ⟨s, 32, none⟩) hgs _).set_ne (show g ≠ w.heap.size by omega) _, ((Upd2.of hU).put 32 _).setRow (Nat.le_refl _) _⟩
      · go_wp2_with fail
        have hk6 := R6.lt; have hks := RowIs.lt hS; have hkg := hm.lt
        have hb : Below x2.heap.size x2 (x2.alloc (.cells (u8s (zeros 32)) 33)) := (by repeat (first | with_reducible exact Below.refl _ _ | with_reducible assumption | refine Below.drew ?_ | refine below_drewN ?_ | refine Below.alloc ?_ (by first | omega | (simp; done) | (simp; omega)) _ | refine below_setRow ?_ (by omega) _ | refine Below.setCell ?_ (by first | omega | (simp; done) | (simp; omega)) _))
        replace hS := RowIs.step hS hb
        replace R6 := R6.step hb
        replace hm := hm.step hb
        replace hB := hB.trans (hb.mono hB.size)
        replace LL := LL.step hb
        have RK : RowIs (x2.alloc (.cells (u8s (zeros 32)) 33)) x2.heap.size (u8s (zeros 32)) := RowIs.new _ _ _
        refine hKL _ _ hS (fun _ => ?_)
        clear hb
        generalize x2.alloc (.cells (u8s (zeros 32)) 33) = x5 at hS hm R6 hB LL RK ⊢
        obtain ⟨k, hk⟩ : ∃ k, k = x2.heap.size := ⟨_, rfl⟩
        rw [← hk] at RK hk6 hks hkg ⊢
        clear hk
        (go_wp2_with (first | (refine wpLexD_skip rfl ?_) | (refine wpLexD_pure (by decide) rfl (fun _ _ => ?_); go_simp; refine ⟨_, fun w9 hw9 => (by have s1 := Src.num hw9 hkey; have s2 := Src.seed hw9 hkey; go_simp; rfl), ?_⟩) | (refine wpLexD_pure0 (by decide) rfl (fun _ _ => ?_); go_simp; try go_bits) | (refine wpLexD_loud (by decide) rfl (fun KL hKL => ?_)) | (refine wpLexS_nil ?_) | (refine wpLexS_pure rfl (fun _ _ => ?_); go_simp; refine ⟨_, fun w9 hw9 => (by have s1 := Src.num hw9 hkey; have s2 := Src.seed hw9 hkey; go_simp; rfl), ?_⟩) | (refine wpLexS_pure0 rfl (fun _ _ => ?_); go_simp; try go_bits) | (refine wpLexS_read rfl (fun _ _ => ?_); go_simp; try go_bits) | (refine wpLexS_loud rfl (fun KL hKL => ?_))))
        refine (DD.out _ _ hm LL).mono ?_
        rintro e x6 ⟨rfl, hm', hu⟩
        replace hS := RowIs.upd hS hu (Ne.symm hgs)
        replace R6 := R6.upd hu (by omega)
        replace RK := RK.upd hu (by omega)
        have hU := (Upd.of (g := g) hB).trans hu
        clear hm hB LL hu
        have hm := hm'
        clear hm'
        go_wp2_with fail
        refine hKL _ _ hS (fun _ => ?_)
        have hk1 := RK.has; have hk2 := RK.row; have hk3 := RK.lt
        (go_wp2_with (first | (refine wpLexD_skip rfl ?_) | (refine wpLexD_pure (by decide) rfl (fun _ _ => ?_); go_simp; refine ⟨_, fun w9 hw9 => (by have s1 := Src.num hw9 hkey; have s2 := Src.seed hw9 hkey; go_simp; rfl), ?_⟩) | (refine wpLexD_pure0 (by decide) rfl (fun _ _ => ?_); go_simp; try go_bits) | (refine wpLexD_loud (by decide) rfl (fun KL hKL => ?_)) | (refine wpLexS_nil ?_) | (refine wpLexS_pure rfl (fun _ _ => ?_); go_simp; refine ⟨_, fun w9 hw9 => (by have s1 := Src.num hw9 hkey; have s2 := Src.seed hw9 hkey; go_simp; rfl), ?_⟩) | (refine wpLexS_pure0 rfl (fun _ _ => ?_); go_simp; try go_bits) | (refine wpLexS_read rfl (fun _ _ => ?_); go_simp; try go_bits) | (refine wpLexS_loud rfl (fun KL hKL => ?_))))
        refine hKL _ _ (RowIs.set_ne hS (by omega) _) (fun _ => ?_)
        replace hS := RowIs.set_ne hS (show s ≠ k by omega) (u8s K)
        replace R6 := R6.set_ne (show w.heap.size ≠ k by omega) (u8s K)
        replace RK := RK.set (u8s K)
        replace hm := hm.set_ne (show g ≠ k by omega) (u8s K)
        replace hU := hU.setRow (show w.heap.size ≤ k by omega) (u8s K)
        clear hk1 hk2 hk3
        generalize x6.setRow k (u8s K) = z at hS R6 RK hm hU ⊢
        have hS' : Src z s key n := hS
        have hz1 := hS'.num hkey
        have hz2 := RowIs.fz hS 32
        have RKp := RK.put_ne (a := ⟨s, 32, none⟩) (show k ≠ s by omega) (.int .u64 (n64 (n + 1)))
        have R6p := R6.put_ne (a := ⟨s, 32, none⟩) (show w.heap.size ≠ s by omega) (.int .u64 (n64 (n + 1)))
        have hnx : IntKind.u64.wrap (n64 n + 1) = n64 (n + 1) := by rw [n64_def, n64_def, UInt64.toNat_add, wrap_u64]; simp
        have hk1 := RKp.has; have hk2 := RKp.row; have hk3 := RKp.lt; have hk4 := R6p.has; have hk5 := R6p.row; have hk7 := R6p.lt
        go_wp2_with (refine wpLexS_nil ?_)
        refine bodyPost_rowTmp 6 7 _ w.heap.size 32 rfl rfl (by omega) (by kernel_rfl) (by kernel_rfl) ?_ rfl ?_
        · go_simp
        · go_simp
          exact ⟨rfl, RowIs.set_ne (hS'.put hkey (n + 1)) (show s ≠ w.heap.size by omega) _, (hm.put_ne (a := ⟨s, 32, none⟩) hgs _).set_ne (show g ≠ w.heap.size by omega) _, ((Upd2.of hU).put 32 _).setRow (Nat.le_refl _) _⟩
    · go_wp2_with fail
      have hk6 := R6.lt; have hks := RowIs.lt hS; have hkg := hm.lt
      have hb : Below x1.heap.size x1 (x1.alloc (.cells (u8s (zeros 32)) 33)) := (by repeat (first | with_reducible exact Below.refl _ _ | with_reducible assumption | refine Below.drew ?_ | refine below_drewN ?_ | refine Below.alloc ?_ (by first | omega | (simp; done) | (simp; omega)) _ | refine below_setRow ?_ (by omega) _ | refine Below.setCell ?_ (by first | omega | (simp; done) | (simp; omega)) _))
      replace hS := RowIs.step hS hb
      replace R6 := R6.step hb
      replace hm := hm.step hb
      replace hB := hB.trans (hb.mono hB.size)
      replace hvH := hvH.step hb
      have RK : RowIs (x1.alloc (.cells (u8s (zeros 32)) 33)) x1.heap.size (u8s (zeros 32)) := RowIs.new _ _ _
      refine hKL _ _ hS (fun _ => ?_)
      clear hb
      generalize x1.alloc (.cells (u8s (zeros 32)) 33) = x7 at hS hm R6 hB hvH RK ⊢
      obtain ⟨k, hk⟩ : ∃ k, k = x1.heap.size := ⟨_, rfl⟩
      rw [← hk] at RK hk6 hks hkg ⊢
      clear hk
      (go_wp2_with (first | (refine wpLexD_skip rfl ?_) | (refine wpLexD_pure (by decide) rfl (fun _ _ => ?_); go_simp; refine ⟨_, fun w9 hw9 => (by have s1 := Src.num hw9 hkey; have s2 := Src.seed hw9 hkey; go_simp; rfl), ?_⟩) | (refine wpLexD_pure0 (by decide) rfl (fun _ _ => ?_); go_simp; try go_bits) | (refine wpLexD_loud (by decide) rfl (fun KL hKL => ?_)) | (refine wpLexS_nil ?_) | (refine wpLexS_pure rfl (fun _ _ => ?_); go_simp; refine ⟨_, fun w9 hw9 => (by have s1 := Src.num hw9 hkey; have s2 := Src.seed hw9 hkey; go_simp; rfl), ?_⟩) | (refine wpLexS_pure0 rfl (fun _ _ => ?_); go_simp; try go_bits) | (refine wpLexS_read rfl (fun _ _ => ?_); go_simp; try go_bits) | (refine wpLexS_loud rfl (fun KL hKL => ?_))))
      have hlg := hm.lt
      have hb : Below x7.heap.size x7 (x7.alloc (.cells #[.slice AH 8 cH] 27)) := (by repeat (first | with_reducible exact Below.refl _ _ | with_reducible assumption | refine Below.drew ?_ | refine below_drewN ?_ | refine Below.alloc ?_ (by first | omega | (simp; done) | (simp; omega)) _ | refine below_setRow ?_ (by omega) _ | refine Below.setCell ?_ (by first | omega | (simp; done) | (simp; omega)) _))
      have LL := BsL.lit1 (gg := x7.heap.size) 27 rfl hvH
      replace hS := RowIs.step hS hb
      replace R6 := R6.step hb
      replace hm := hm.step hb
      replace hB := hB.trans (hb.mono hB.size)
      replace RK := RK.step hb
      refine hKL _ _ hS (fun _ => ?_)
      clear hb hvH
      generalize x7.alloc (.cells #[.slice AH 8 cH] 27) = x8 at hS hm R6 hB LL RK ⊢
      obtain ⟨l, hl⟩ : ∃ l, l = x7.heap.size := ⟨_, rfl⟩
      rw [← hl] at LL hlg ⊢
      clear hl
      (go_wp2_with (first | (refine wpLexD_skip rfl ?_) | (refine wpLexD_pure (by decide) rfl (fun _ _ => ?_); go_simp; refine ⟨_, fun w9 hw9 => (by have s1 := Src.num hw9 hkey; have s2 := Src.seed hw9 hkey; go_simp; rfl), ?_⟩) | (refine wpLexD_pure0 (by decide) rfl (fun _ _ => ?_); go_simp; try go_bits) | (refine wpLexD_loud (by decide) rfl (fun KL hKL => ?_)) | (refine wpLexS_nil ?_) | (refine wpLexS_pure rfl (fun _ _ => ?_); go_simp; refine ⟨_, fun w9 hw9 => (by have s1 := Src.num hw9 hkey; have s2 := Src.seed hw9 hkey; go_simp; rfl), ?_⟩) | (refine wpLexS_pure0 rfl (fun _ _ => ?_); go_simp; try go_bits) | (refine wpLexS_read rfl (fun _ _ => ?_); go_simp; try go_bits) | (refine wpLexS_loud rfl (fun KL hKL => ?_))))
      refine (DD.out _ _ hm LL).mono ?_
      rintro e x9 ⟨rfl, hm', hu⟩
      replace hS := RowIs.upd hS hu (Ne.symm hgs)
      replace R6 := R6.upd hu (by omega)
      replace RK := RK.upd hu (by omega)
      have hU := (Upd.of (g := g) hB).trans hu
      clear hm hB LL hu
      have hm := hm'
      clear hm'
      go_wp2_with fail
      refine hKL _ _ hS (fun _ => ?_)
      have hk1 := RK.has; have hk2 := RK.row; have hk3 := RK.lt
      (go_wp2_with (first | (refine wpLexD_skip rfl ?_) | (refine wpLexD_pure (by decide) rfl (fun _ _ => ?_); go_simp; refine ⟨_, fun w9 hw9 => (by have s1 := Src.num hw9 hkey; have s2 := Src.seed hw9 hkey; go_simp; rfl), ?_⟩) | (refine wpLexD_pure0 (by decide) rfl (fun _ _ => ?_); go_simp; try go_bits) | (refine wpLexD_loud (by decide) rfl (fun KL hKL => ?_)) | (refine wpLexS_nil ?_) | (refine wpLexS_pure rfl (fun _ _ => ?_); go_simp; refine ⟨_, fun w9 hw9 => (by have s1 := Src.num hw9 hkey; have s2 := Src.seed hw9 hkey; go_simp; rfl), ?_⟩) | (refine wpLexS_pure0 rfl (fun _ _ => ?_); go_simp; try go_bits) | (refine wpLexS_read rfl (fun _ _ => ?_); go_simp; try go_bits) | (refine wpLexS_loud rfl (fun KL hKL => ?_))))
      refine hKL _ _ (RowIs.set_ne hS (by omega) _) (fun _ => ?_)
      replace hS := RowIs.set_ne hS (show s ≠ k by omega) (u8s K)
      replace R6 := R6.set_ne (show w.heap.size ≠ k by omega) (u8s K)
      replace RK := RK.set (u8s K)
      replace hm := hm.set_ne (show g ≠ k by omega) (u8s K)
      replace hU := hU.setRow (show w.heap.size ≤ k by omega) (u8s K)
      clear hk1 hk2 hk3
      generalize x9.setRow k (u8s K) = z at hS R6 RK hm hU ⊢
      have hS' : Src z s key n := hS
      have hz1 := hS'.num hkey
      have hz2 := RowIs.fz hS 32
      have RKp := RK.put_ne (a := ⟨s, 32, none⟩) (show k ≠ s by omega) (.int .u64 (n64 (n + 1)))
      have R6p := R6.put_ne (a := ⟨s, 32, none⟩) (show w.heap.size ≠ s by omega) (.int .u64 (n64 (n + 1)))
      have hnx : IntKind.u64.wrap (n64 n + 1) = n64 (n + 1) := by rw [n64_def, n64_def, UInt64.toNat_add, wrap_u64]; simp
      have hk1 := RKp.has; have hk2 := RKp.row; have hk3 := RKp.lt; have hk4 := R6p.has; have hk5 := R6p.row; have hk7 := R6p.lt
      go_wp2_with (refine wpLexS_nil ?_)
      refine bodyPost_rowTmp 6 7 _ w.heap.size 32 rfl rfl (by omega) (by kernel_rfl) (by kernel_rfl) ?_ rfl ?_
      · go_simp
      · go_simp
        exact ⟨rfl, RowIs.set_ne (hS'.put hkey (n + 1)) (show s ≠ w.heap.size by omega) _, (hm.put_ne (a := ⟨s, 32, none⟩) hgs _).set_ne (show g ≠ w.heap.size by omega) _, ((Upd2.of hU).put 32 _).setRow (Nat.le_refl _) _⟩
  · go_wp2_with fail
    have hk6 := R6.lt; have hks := RowIs.lt hS; have hkg := hm.lt
    have hb : Below x0.heap.size x0 (x0.alloc (.cells (u8s (zeros 32)) 33)) := (by repeat (first | with_reducible exact Below.refl _ _ | with_reducible assumption | refine Below.drew ?_ | refine below_drewN ?_ | refine Below.alloc ?_ (by first | omega | (simp; done) | (simp; omega)) _ | refine below_setRow ?_ (by omega) _ | refine Below.setCell ?_ (by first | omega | (simp; done) | (simp; omega)) _))
    replace hS := RowIs.step hS hb
    replace R6 := R6.step hb
    replace hm := hm.step hb
    replace hB := hB.trans (hb.mono hB.size)
    have RK : RowIs (x0.alloc (.cells (u8s (zeros 32)) 33)) x0.heap.size (u8s (zeros 32)) := RowIs.new _ _ _
    refine hKL _ _ hS (fun _ => ?_)
    clear hb
    generalize x0.alloc (.cells (u8s (zeros 32)) 33) = x10 at hS hm R6 hB RK ⊢
    obtain ⟨k, hk⟩ : ∃ k, k = x0.heap.size := ⟨_, rfl⟩
    rw [← hk] at RK hk6 hks hkg ⊢
    clear hk
    (go_wp2_with (first | (refine wpLexD_skip rfl ?_) | (refine wpLexD_pure (by decide) rfl (fun _ _ => ?_); go_simp; refine ⟨_, fun w9 hw9 => (by have s1 := Src.num hw9 hkey; have s2 := Src.seed hw9 hkey; go_simp; rfl), ?_⟩) | (refine wpLexD_pure0 (by decide) rfl (fun _ _ => ?_); go_simp; try go_bits) | (refine wpLexD_loud (by decide) rfl (fun KL hKL => ?_)) | (refine wpLexS_nil ?_) | (refine wpLexS_pure rfl (fun _ _ => ?_); go_simp; refine ⟨_, fun w9 hw9 => (by have s1 := Src.num hw9 hkey; have s2 := Src.seed hw9 hkey; go_simp; rfl), ?_⟩) | (refine wpLexS_pure0 rfl (fun _ _ => ?_); go_simp; try go_bits) | (refine wpLexS_read rfl (fun _ _ => ?_); go_simp; try go_bits) | (refine wpLexS_loud rfl (fun KL hKL => ?_))))
    refine (HH.out _).mono ?_
    rintro e x11 ⟨vH, rfl, hvH, hb⟩
    obtain ⟨AH, cH, rfl, -, -, -⟩ := id hvH
    rw [hHl] at hvH ⊢
    replace hS := RowIs.step hS hb
    replace R6 := R6.step hb
    replace hm := hm.step hb
    replace hB := hB.trans (hb.mono hB.size)
    replace RK := RK.step hb
    go_wp2_with fail
    refine hKL _ _ hS (fun _ => ?_)
    clear hb
    (go_wp2_with (first | (refine wpLexD_skip rfl ?_) | (refine wpLexD_pure (by decide) rfl (fun _ _ => ?_); go_simp; refine ⟨_, fun w9 hw9 => (by have s1 := Src.num hw9 hkey; have s2 := Src.seed hw9 hkey; go_simp; rfl), ?_⟩) | (refine wpLexD_pure0 (by decide) rfl (fun _ _ => ?_); go_simp; try go_bits) | (refine wpLexD_loud (by decide) rfl (fun KL hKL => ?_)) | (refine wpLexS_nil ?_) | (refine wpLexS_pure rfl (fun _ _ => ?_); go_simp; refine ⟨_, fun w9 hw9 => (by have s1 := Src.num hw9 hkey; have s2 := Src.seed hw9 hkey; go_simp; rfl), ?_⟩) | (refine wpLexS_pure0 rfl (fun _ _ => ?_); go_simp; try go_bits) | (refine wpLexS_read rfl (fun _ _ => ?_); go_simp; try go_bits) | (refine wpLexS_loud rfl (fun KL hKL => ?_))))
    have hlg := hm.lt
    have hb : Below x11.heap.size x11 (x11.alloc (.cells #[.slice AH 8 cH] 27)) := (by repeat (first | with_reducible exact Below.refl _ _ | with_reducible assumption | refine Below.drew ?_ | refine below_drewN ?_ | refine Below.alloc ?_ (by first | omega | (simp; done) | (simp; omega)) _ | refine below_setRow ?_ (by omega) _ | refine Below.setCell ?_ (by first | omega | (simp; done) | (simp; omega)) _))
    have LL := BsL.lit1 (gg := x11.heap.size) 27 rfl hvH
    replace hS := RowIs.step hS hb
    replace R6 := R6.step hb
    replace hm := hm.step hb
    replace hB := hB.trans (hb.mono hB.size)
    replace RK := RK.step hb
    refine hKL _ _ hS (fun _ => ?_)
    clear hb hvH
    generalize x11.alloc (.cells #[.slice AH 8 cH] 27) = x12 at hS hm R6 hB LL RK ⊢
    obtain ⟨l, hl⟩ : ∃ l, l = x11.heap.size := ⟨_, rfl⟩
    rw [← hl] at LL hlg ⊢
    clear hl
    (go_wp2_with (first | (refine wpLexD_skip rfl ?_) | (refine wpLexD_pure (by decide) rfl (fun _ _ => ?_); go_simp; refine ⟨_, fun w9 hw9 => (by have s1 := Src.num hw9 hkey; have s2 := Src.seed hw9 hkey; go_simp; rfl), ?_⟩) | (refine wpLexD_pure0 (by decide) rfl (fun _ _ => ?_); go_simp; try go_bits) | (refine wpLexD_loud (by decide) rfl (fun KL hKL => ?_)) | (refine wpLexS_nil ?_) | (refine wpLexS_pure rfl (fun _ _ => ?_); go_simp; refine ⟨_, fun w9 hw9 => (by have s1 := Src.num hw9 hkey; have s2 := Src.seed hw9 hkey; go_simp; rfl), ?_⟩) | (refine wpLexS_pure0 rfl (fun _ _ => ?_); go_simp; try go_bits) | (refine wpLexS_read rfl (fun _ _ => ?_); go_simp; try go_bits) | (refine wpLexS_loud rfl (fun KL hKL => ?_))))
    refine (DD.out _ _ hm LL).mono ?_
    rintro e x13 ⟨rfl, hm', hu⟩
    replace hS := RowIs.upd hS hu (Ne.symm hgs)
    replace R6 := R6.upd hu (by omega)
    replace RK := RK.upd hu (by omega)
    have hU := (Upd.of (g := g) hB).trans hu
    clear hm hB LL hu
    have hm := hm'
    clear hm'
    go_wp2_with fail
    refine hKL _ _ hS (fun _ => ?_)
    have hk1 := RK.has; have hk2 := RK.row; have hk3 := RK.lt
    (go_wp2_with (first | (refine wpLexD_skip rfl ?_) | (refine wpLexD_pure (by decide) rfl (fun _ _ => ?_); go_simp; refine ⟨_, fun w9 hw9 => (by have s1 := Src.num hw9 hkey; have s2 := Src.seed hw9 hkey; go_simp; rfl), ?_⟩) | (refine wpLexD_pure0 (by decide) rfl (fun _ _ => ?_); go_simp; try go_bits) | (refine wpLexD_loud (by decide) rfl (fun KL hKL => ?_)) | (refine wpLexS_nil ?_) | (refine wpLexS_pure rfl (fun _ _ => ?_); go_simp; refine ⟨_, fun w9 hw9 => (by have s1 := Src.num hw9 hkey; have s2 := Src.seed hw9 hkey; go_simp; rfl), ?_⟩) | (refine wpLexS_pure0 rfl (fun _ _ => ?_); go_simp; try go_bits) | (refine wpLexS_read rfl (fun _ _ => ?_); go_simp; try go_bits) | (refine wpLexS_loud rfl (fun KL hKL => ?_))))
    refine hKL _ _ (RowIs.set_ne hS (by omega) _) (fun _ => ?_)
    replace hS := RowIs.set_ne hS (show s ≠ k by omega) (u8s K)
    replace R6 := R6.set_ne (show w.heap.size ≠ k by omega) (u8s K)
    replace RK := RK.set (u8s K)
    replace hm := hm.set_ne (show g ≠ k by omega) (u8s K)
    replace hU := hU.setRow (show w.heap.size ≤ k by omega) (u8s K)
    clear hk1 hk2 hk3
    generalize x13.setRow k (u8s K) = z at hS R6 RK hm hU ⊢
    have hS' : Src z s key n := hS
    have hz1 := hS'.num hkey
    have hz2 := RowIs.fz hS 32
    have RKp := RK.put_ne (a := ⟨s, 32, none⟩) (show k ≠ s by omega) (.int .u64 (n64 (n + 1)))
    have R6p := R6.put_ne (a := ⟨s, 32, none⟩) (show w.heap.size ≠ s by omega) (.int .u64 (n64 (n + 1)))
    have hnx : IntKind.u64.wrap (n64 n + 1) = n64 (n + 1) := by rw [n64_def, n64_def, UInt64.toNat_add, wrap_u64]; simp
    have hk1 := RKp.has; have hk2 := RKp.row; have hk3 := RKp.lt; have hk4 := R6p.has; have hk5 := R6p.row; have hk7 := R6p.lt
    go_wp2_with (refine wpLexS_nil ?_)
    refine bodyPost_rowTmp 6 7 _ w.heap.size 32 rfl rfl (by omega) (by kernel_rfl) (by kernel_rfl) ?_ rfl ?_
    · go_simp
    · go_simp
      exact ⟨rfl, RowIs.set_ne (hS'.put hkey (n + 1)) (show s ≠ w.heap.size by omega) _, (hm.put_ne (a := ⟨s, 32, none⟩) hgs _).set_ne (show g ≠ w.heap.size by omega) _, ((Upd2.of hU).put 32 _).setRow (Nat.le_refl _) _⟩
end Go.Proofs.YtopmdbmnlflpgaaDoor
