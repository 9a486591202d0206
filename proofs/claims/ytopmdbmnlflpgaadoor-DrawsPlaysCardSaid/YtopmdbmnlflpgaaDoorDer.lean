/- Layer 3: a key made of a key. -/
import Derived.Test.YtopmdbmnlflpgaaDoorMacS
import Derived.Test.YtopmdbmnlflpgaaDoorMSums
import Derived.Laws.IdiomStrings
import Derived.Lib.AppendStr
import Derived.Lib.SmallJoins
namespace Go.Proofs.YtopmdbmnlflpgaaDoor
open Go.RowKit
theorem kloadX (ev : Operand → Value) (d : Option Tmp) (x : Operand) (ty : TypeId) (p : String) (af : Array Edge) (g : Option (Nat × Bool)) :
    execOp ev ⟨d, .load 33 x, ty, p, af, g⟩ = loadAgg 33 (ev x) := exec_loadAgg ev d _ x ty p af g
theorem kload {w : World} {g : Nat} {T : List UInt8} (hr : RowIs w g (u8s T)) (hT : T.length = 32) : (loadAgg 33 (.pointer (some ⟨g, 0, none⟩))).run Tryd.prog w = .ok (.value (.agg (u8s T))) w := by
  have := run_loadAgg (P := Tryd.prog) 32 33 (by omega) (by kernel_rfl) (by kernel_rfl) w g (by rw [hr.has, u8s_size]; exact hT)
  rw [hr.has] at this; exact this
theorem kload0 (w : World) (g : Nat) (hr : (rowOf w g).size = 32) : (loadAgg 33 (.pointer (some ⟨g, 0, none⟩))).run Tryd.prog w = .ok (.value (.agg (rowOf w g))) w := run_loadAgg 32 _ (by omega) (by kernel_rfl) (by kernel_rfl) w g hr
/-- what a key is made by: the label, cut, behind its length; then each list behind its length -/
def infoK (s : List UInt8) (ls : List (List UInt8)) : Nat → List UInt8
  | 0 => UInt8.ofNat (s.take 255).length :: s.take 255
  | k + 1 => infoK s ls k ++ ((lowB (UInt64.ofNat (nthL ls k).length) 4).reverse ++ nthL ls k)
@[irreducible] def infoB (s : List UInt8) (ls : List (List UInt8)) : List UInt8 := infoK s ls ls.length
theorem infoB_def (s : List UInt8) (ls : List (List UInt8)) : infoB s ls = infoK s ls ls.length := by unfold infoB; rfl
@[irreducible] def derB (key s : List UInt8) (ls : List (List UInt8)) : List UInt8 := macB key (infoB s ls ++ [1])
theorem derB_def (key s : List UInt8) (ls : List (List UInt8)) : derB key s ls = macB key (infoB s ls ++ [1]) := by unfold derB; rfl
theorem derB_length (key s : List UInt8) (ls : List (List UInt8)) : (derB key s ls).length = 32 := by rw [derB_def, macB_length]
theorem infoK_mono (s : List UInt8) (ls : List (List UInt8)) (k : Nat) : (infoK s ls (k + 1)).length = (infoK s ls k).length + (4 + (nthL ls k).length) := by
  rw [infoK, List.length_append, List.length_append, List.length_reverse, lowB_length]
theorem infoK_le (s : List UInt8) (ls : List (List UInt8)) (M : Nat) (h : ∀ k, k < ls.length → (nthL ls k).length ≤ M) : ∀ k, k ≤ ls.length → (infoK s ls k).length ≤ 256 + k * (4 + M)
  | 0, _ => by simp [infoK]; omega
  | k + 1, hk => by
    have := infoK_le s ls M h k (by omega)
    have h2 := h k (by omega)
    rw [infoK_mono, Nat.succ_mul]; omega
theorem conv_bs (l : List UInt8) (hl : l.length ≤ 1000000) (w : World) : ∃ A c w', (convert 9 27 (.string ⟨l.toArray⟩)).run Tryd.prog w = .ok (.slice A l.length c) w' ∧ Bs w' (.slice A l.length c) l ∧ Below w.heap.size w w' := by
  have h := run_bytes_of_string (P := Tryd.prog) w 9 27 5 ⟨l.toArray⟩ Tryd.underlying9 Tryd.underlying27 Tryd.underlying5
  have hs : (⟨l.toArray⟩ : ByteArray).size = l.length := by simp [ByteArray.size]
  rw [hs] at h
  have hge := grownCap_ge w l.length 0 5
  refine ⟨_, _, _, h, Bs.of' rfl hge (by omega) fun h0 => ⟨w.heap.size, 0, rfl, by simp, fun i hi => ?_⟩, ?_⟩
  · rw [Nat.zero_add, Go.Joins.cell_alloc_mark_at w.drew _ 5 _ w.heap.size i rfl, bytesRow_at _ _ _ (by simpa using hi), n8_def, at8_get l i hi]
    simp
  · exact ((Below.refl _ _).drew).alloc (Nat.le_refl _) _
theorem cut_str (l : List UInt8) (k : Nat) (hk : k ≤ l.length) (w : World) : (Instr.slice 9 (.string ⟨l.toArray⟩) none (some (.int .i64 k)) none).run Tryd.prog w = .ok (.string ⟨(l.take k).toArray⟩) w := by
  have hs : (⟨l.toArray⟩ : ByteArray).size = l.length := by simp [ByteArray.size]
  simp [Instr.slice, Instr.sliceBounds, run_sliceBound, hs, hk]
  apply ByteArray.ext
  simp
set_option maxRecDepth 100000 in
set_option maxHeartbeats 3200000 in
theorem derive_any (g : Nat) (N : Int) (key s : List UInt8) (hkey : key.length = 32) (vl : Value) (ls : List (List UInt8)) (w : World) (hm : MetB w g N) (he : ShaEnv w) (hr : BsLx g w vl ls) (hs : s.length ≤ 300) (hls : ls.length ≤ 10) (hle : ∀ k, k < ls.length → (nthL ls k).length ≤ 1000) (hN : N ≤ 900000) :
    Calls Tryd.prog 57 #[.pointer (some ⟨g, 0, none⟩), .agg (u8s key), .string ⟨s.toArray⟩, vl] w (MSum g (N + 4) (derB key s ls) w) := by
  obtain ⟨F, hF⟩ : ∃ F, F = derB key s ls := ⟨_, rfl⟩
  have hFl : F.length = 32 := by rw [hF, derB_length]
  have hilen : ∀ k, k ≤ ls.length → (infoK s ls k).length ≤ 20000 := fun k hk => by
    have := infoK_le s ls 1000 hle k hk
    have : k * (4 + 1000) ≤ 10 * 1004 := Nat.mul_le_mul (by omega) (Nat.le_refl _)
    omega
  have hfl : [infoB s ls, [1]].flatten = infoB s ls ++ [1] := by simp
  have mm := fun (w : World) vk vl h1 h2 h3 h4 => mac_any g N vk vl key [infoB s ls, [1]] w h1 h2 h3 h4 (by omega) (by rw [hfl, List.length_append, infoB_def]; have := hilen ls.length (Nat.le_refl _); simp; omega) hN
  rw [hfl, ← derB_def, ← hF] at mm
  rw [← hF]
  have MM := Lib.hid mm
  have HIL := Lib.hid hilen
  have HLE := Lib.hid hle
  obtain ⟨t, ht⟩ : ∃ t, t = s.take 255 := ⟨_, rfl⟩
  obtain ⟨n, hn⟩ : ∃ n, n = t.length := ⟨_, rfl⟩
  have hn5 : n ≤ 255 := by rw [hn, ht, List.length_take]; omega
  have hnm : n = min 255 s.length := by rw [hn, ht, List.length_take]
  obtain ⟨S, hS⟩ : ∃ S : ByteArray, S = ⟨s.toArray⟩ := ⟨_, rfl⟩
  rw [← hS]
  obtain ⟨T, hT⟩ : ∃ T : ByteArray, T = ⟨t.toArray⟩ := ⟨_, rfl⟩
  have hSz : S.size = s.length := by rw [hS]; simp [ByteArray.size]
  have hTz : T.size = n := by rw [hT, hn]; simp [ByteArray.size]
  have hcut : S.extract 0 n = T := by
    rw [hS, hT, ht, hnm]
    apply ByteArray.ext
    simp
  obtain ⟨m, hm'⟩ : ∃ m, m = s.length := ⟨_, rfl⟩
  rw [← hm'] at hSz hnm hs
  have hmin : min (m : Int) (255 : Int) = (n : Int) := by omega
  obtain ⟨bt, hbt⟩ : ∃ bt, bt = UInt8.ofNat n := ⟨_, rfl⟩
  have hcv : (n : Int) = n8 bt := by rw [hbt, n8_def, UInt8.toNat_ofNat']; omega
  have hgl := hm.lt
  have hno := hm.no8
  have hB0 : Below w.heap.size w ((w.alloc (.cells (u8s key) 33)).alloc (.cells (u8s (zeros 32)) 33)) := (by repeat (first | with_reducible exact Below.refl _ _ | with_reducible assumption | refine Below.drew ?_ | refine below_drewN ?_ | refine Below.alloc ?_ (by first | omega | (simp; done) | (simp; omega)) _ | refine below_setRow ?_ (by omega) _ | refine Below.setCell ?_ (by first | omega | (simp; done) | (simp; omega)) _))
  have R5 : RowIs ((w.alloc (.cells (u8s key) 33)).alloc (.cells (u8s (zeros 32)) 33)) w.heap.size (u8s key) := (RowIs.new _ _ _).alloc _
  have R8 : RowIs ((w.alloc (.cells (u8s key) 33)).alloc (.cells (u8s (zeros 32)) 33)) (w.heap.size + 1) (u8s (zeros 32)) := RowIs.new' (by simp)
  -- the label's bytes
  have hq1 : Below ((w.alloc (.cells (u8s key) 33)).alloc (.cells (u8s (zeros 32)) 33)).heap.size ((w.alloc (.cells (u8s key) 33)).alloc (.cells (u8s (zeros 32)) 33)) (((w.alloc (.cells (u8s key) 33)).alloc (.cells (u8s (zeros 32)) 33)).alloc (.cells #[.int .u8 (n : Int)] 5)) := (by repeat (first | with_reducible exact Below.refl _ _ | with_reducible assumption | refine Below.drew ?_ | refine below_drewN ?_ | refine Below.alloc ?_ (by first | omega | (simp; done) | (simp; omega)) _ | refine below_setRow ?_ (by omega) _ | refine Below.setCell ?_ (by first | omega | (simp; done) | (simp; omega)) _))
  have hone := Bs.one (w := ((w.alloc (.cells (u8s key) 33)).alloc (.cells (u8s (zeros 32)) 33)).alloc (.cells #[.int .u8 (n : Int)] 5)) (g := w.heap.size + 1 + 1) (i := (n : Int)) bt (by go_simp) hcv (by simp)
  obtain ⟨A1, c1, w1, hconv, hb1, hq2⟩ := conv_bs t (by omega) (((w.alloc (.cells (u8s key) 33)).alloc (.cells (u8s (zeros 32)) 33)).alloc (.cells #[.int .u8 (n : Int)] 5))
  rw [← hT, ← hn] at hconv
  rw [← hn] at hb1
  replace hone := hone.step hq2
  have hB1 : Below ((w.alloc (.cells (u8s key) 33)).alloc (.cells (u8s (zeros 32)) 33)).heap.size ((w.alloc (.cells (u8s key) 33)).alloc (.cells (u8s (zeros 32)) 33)) w1 := hq1.trans (hq2.mono hq1.size)
  have hs1 := hB1.size
  have hI0 : [[bt], t].flatten = infoK s ls 0 := by rw [infoK, ← ht, ← hn, hbt]; simp
  have CC := Lib.hid (concat_bs (.slice (some ⟨w1.heap.size, 0, none⟩) 2 2) [[bt], t] (by simp; omega) (w1.alloc (.cells #[.slice (some ⟨w.heap.size + 1 + 1, 0, none⟩) 1 1, .slice A1 n c1] 27)) (BsL.lit2 (gg := w1.heap.size) _ rfl hone hb1))
  have HI0 := Lib.hid hI0
  have HBT := Lib.hid hbt
  clear hq1 hq2 hone hb1 mm hilen hle hS hT hF hbt hI0 hfl ht hn hm' hcv hnm
  obtain ⟨Al, cl, rfl, hc, hl140, hrr⟩ := id hr
  go_enter Tryd.func57, Tryd.ntmps57
  go_wp2_with fail
  refine CC.out.mono ?_
  rintro e w2 ⟨v2, rfl, hv2, hb2⟩
  rw [HI0.out] at hv2
  replace hb2 := hB1.trans ((Below.pred (w1 := w1) (by repeat (first | with_reducible exact Below.refl _ _ | with_reducible assumption | refine Below.drew ?_ | refine below_drewN ?_ | refine Below.alloc ?_ (by first | omega | (simp; done) | (simp; omega)) _ | refine below_setRow ?_ (by omega) _ | refine Below.setCell ?_ (by first | omega | (simp; done) | (simp; omega)) _)) hb2).mono hB1.size)
  have HB := hB0.trans (hb2.mono hB0.size)
  replace R5 := R5.step hb2; replace R8 := R8.step hb2
  have hs2 := HB.size
  have hno2 := (hm.step HB).no8
  replace hm := hm.step HB
  replace he := he.step HB
  replace hr := hr.step HB
  have HRR := Lib.hid hr
  have hnr5 := R5.lt
  have hnr8 := R8.lt
  clear hB0 hB1 hb2 hrr hr hmin hcut hconv CC
  obtain ⟨ln, hln⟩ : ∃ ln, ln = ls.length := ⟨_, rfl⟩
  have HLN := Lib.hid hln
  rw [← hln] at hls hl140 hc ⊢
  clear hln
  go_wp2_with fail
  go_loopw [9, 11, 27] (fun v _ i wr => ∃ k : Nat, i = .int .i64 k ∧ k ≤ ln ∧ Bs wr v (infoK s ls k) ∧ Below w2.heap.size w2 wr) (fun _ _ i _ => ln - (intOf i).toNat)
  case atStart => exact ⟨0, rfl, by omega, hv2, Below.refl _ _⟩
  case round =>
    clear hv2
    obtain ⟨k, rfl, hk, hv, hb⟩ := hrel
    by_cases hlt : k < ln
    · have hlt' : k < ls.length := by rw [← HLN.out]; exact hlt
      obtain ⟨A5, c5, e5, -, -, hrd⟩ := HRR.out
      obtain ⟨bl, ol, rfl, -, hrd⟩ := hrd (by omega)
      obtain ⟨rfl, -, rfl⟩ : Al = some ⟨bl, ol, none⟩ ∧ ln = ls.length ∧ cl = c5 := by injection e5 with q1 q2 q3; exact ⟨q1, HLN.out, q3⟩
      obtain ⟨vb, hcell, hbs⟩ := (hrd.step hb).2 k hlt'
      obtain ⟨Ab, cb, rfl, -, -, -⟩ := id hbs
      obtain ⟨it, hit⟩ : ∃ it, it = nthL ls k := ⟨_, rfl⟩
      obtain ⟨m', hmm⟩ : ∃ m', m' = it.length := ⟨_, rfl⟩
      have hm1 : m' ≤ 1000 := by rw [hmm, hit]; exact HLE.out k hlt'
      have hinf : infoK s ls (k + 1) = infoK s ls k ++ ((lowB (UInt64.ofNat m') 4).reverse ++ it) := by rw [infoK, hmm, hit]
      have hil := HIL.out (k + 1) (by omega)
      have HINF := Lib.hid hinf
      rw [← hit, ← hmm] at hcell hbs
      have hk0 : (0 : Int) ≤ (k : Int) := by omega
      have hk1 : (k : Int) < ls.length := by omega
      clear hit hmm hinf e5 hrd
      obtain ⟨Av, cv, rfl, -, -, -⟩ := id hv
      obtain ⟨q, hq⟩ : ∃ q, q = (infoK s ls k).length := ⟨_, rfl⟩
      rw [← hq] at hv ⊢
      clear hq
      go_wp2_with fail
      have hh := high_bs (UInt64.ofNat m') 4 (by omega) (by omega) 4 rfl wr
      rw [show n64 (UInt64.ofNat m') = (m' : Int) by rw [n64_def, UInt64.toNat_ofNat']; omega] at hh
      refine hh.mono ?_
      rintro e w4 ⟨v4, rfl, hv4, hb4⟩
      clear hh
      replace hv := hv.step hb4; replace hbs := hbs.step hb4
      replace hb := hb.trans (hb4.mono hb.size)
      obtain ⟨H, hH⟩ : ∃ H, H = (lowB (UInt64.ofNat m') 4).reverse := ⟨_, rfl⟩
      rw [← hH] at hv4 HINF
      have hfl2 : [infoK s ls k, H, it].flatten = infoK s ls (k + 1) := by rw [HINF.out]; simp
      clear hH
      have hlit := BsL.lit3 (gg := w4.heap.size) 27 rfl hv hv4 hbs
      obtain ⟨A4, c4, rfl, -, -, -⟩ := id hv4
      obtain ⟨n4, hn4⟩ : ∃ n4, n4 = H.length := ⟨_, rfl⟩
      rw [← hn4] at hlit ⊢
      clear hn4 hv4 hb4 hv hbs
      go_wp2_with fail
      refine (concat_bs _ _ (by rw [hfl2]; omega) _ hlit).mono ?_
      rintro e w5 ⟨v5, rfl, hv5, hb5⟩
      rw [hfl2] at hv5
      replace hb5 := Below.pred (w1 := w4) (by repeat (first | with_reducible exact Below.refl _ _ | with_reducible assumption | refine Below.drew ?_ | refine below_drewN ?_ | refine Below.alloc ?_ (by first | omega | (simp; done) | (simp; omega)) _ | refine below_setRow ?_ (by omega) _ | refine Below.setCell ?_ (by first | omega | (simp; done) | (simp; omega)) _)) hb5
      replace hb := hb.trans (hb5.mono hb.size)
      clear hb5 hlit hfl2
      go_wp2_with fail
      exact ⟨⟨k + 1, by go_num, by omega, hv5, hb⟩, by simp [intOf]; omega⟩
    · have ek : k = ln := by omega
      subst ek
      have hinf : infoK s ls k = infoB s ls := by rw [infoB_def, ← HLN.out]
      rw [hinf] at hv
      obtain ⟨I, hI⟩ : ∃ I, I = infoB s ls := ⟨_, rfl⟩
      rw [← hI] at hv MM
      replace R5 := R5.step hb; replace R8 := R8.step hb; replace hm := hm.step hb; replace he := he.step hb
      have hB := HB.trans (hb.mono HB.size)
      obtain ⟨Av, cv, rfl, -, -, -⟩ := id hv
      obtain ⟨q, hq⟩ : ∃ q, q = I.length := ⟨_, rfl⟩
      rw [← hq] at hv ⊢
      have hbz := hB.size
      clear hq hI hinf hb HB
      have hq1 : Below wr.heap.size wr (wr.alloc (.cells #[.int .u8 1] 5)) := (by repeat (first | with_reducible exact Below.refl _ _ | with_reducible assumption | refine Below.drew ?_ | refine below_drewN ?_ | refine Below.alloc ?_ (by first | omega | (simp; done) | (simp; omega)) _ | refine below_setRow ?_ (by omega) _ | refine Below.setCell ?_ (by first | omega | (simp; done) | (simp; omega)) _))
      have hone := Bs.one (w := wr.alloc (.cells #[.int .u8 1] 5)) (g := wr.heap.size) (i := 1) 1 (by go_simp) (by rw [n8_def]; rfl) (by simp)
      have hlit := BsLx.of (g := g) (BsL.lit2 (gg := wr.heap.size + 1) 27 (by simp) (hv.step hq1) hone) (by omega)
      have hB2 : Below w.heap.size w ((wr.alloc (.cells #[.int .u8 1] 5)).alloc (.cells #[.slice Av q cv, .slice (some ⟨wr.heap.size, 0, none⟩) 1 1] 27)) := (hB.alloc (by omega) _).alloc (by simp; omega) _
      have hq2 : Below wr.heap.size wr ((wr.alloc (.cells #[.int .u8 1] 5)).alloc (.cells #[.slice Av q cv, .slice (some ⟨wr.heap.size, 0, none⟩) 1 1] 27)) := (by repeat (first | with_reducible exact Below.refl _ _ | with_reducible assumption | refine Below.drew ?_ | refine below_drewN ?_ | refine Below.alloc ?_ (by first | omega | (simp; done) | (simp; omega)) _ | refine below_setRow ?_ (by omega) _ | refine Below.setCell ?_ (by first | omega | (simp; done) | (simp; omega)) _))
      replace R5 := R5.step hq2; replace R8 := R8.step hq2; replace hm := hm.step hq2; replace he := he.step hq2
      have hk5 : Bs ((wr.alloc (.cells #[.int .u8 1] 5)).alloc (.cells #[.slice Av q cv, .slice (some ⟨wr.heap.size, 0, none⟩) 1 1] 27)) (.slice (some ⟨w.heap.size, 0, none⟩) 32 32) key := Bs.row R5 32 32 hkey.symm (Nat.le_refl _) (by omega)
      go_wp2_with fail
      refine (MM.out _ _ _ hm he hk5 hlit).mono ?_
      rintro e w6 ⟨rfl, hm6, hu6⟩
      replace R8 := R8.upd hu6 (by omega)
      have hu := (Upd.of (g := g) hB2).trans hu6
      have hr8 := R8.lt
      clear hm he hk5 hlit hB2 hu6 hone hv hq1 hq2 hB R5
      have R8h := R8.has; have R8r := R8.row; have R8l := R8.lt
      go_wp2_with fail
      refine bodyPost_retRow 8 _ (w.heap.size + 1) 32 rfl rfl (by omega) (by kernel_rfl) (by kernel_rfl) ?_ rfl ?_
      · go_simp
      · go_simp
        obtain ⟨n, h0, h1, h2⟩ := hm6
        exact ⟨rfl, ⟨n, h0, by omega, RowIs.set_ne h2 (by omega) _⟩, hu.setRow (by omega) _⟩
end Go.Proofs.YtopmdbmnlflpgaaDoor
