/- ShaParts: the walk of the statement's function. Printed by gen_sparts.py. -/
import Derived.Test.YtopmdbmnlflpgaaDoorKeep4
import Derived.Test.YtopmdbmnlflpgaaDoorFloat
namespace Go.Proofs.YtopmdbmnlflpgaaDoor
open Go.RowKit
theorem KeepStep.env {g base : Nat} {w w' : World} {n : Int} {k : Bool} {v : Value} (h : KeepStep g base w w') (hm : Met w g n k v) (he : ShaEnv w) : ShaEnv w' :=
  ⟨h.row _ _ he.rounds (row32_ne hm he.rounds (by rw [roundsL_length]; omega)) (by rw [u32s_def]; simp [roundsL, isSl]), h.row _ _ he.start (row32_ne hm he.start (by rw [startS_length]; omega)) (by rw [u32s_def]; simp [startS, isSl])⟩
theorem sstore (w : World) (g : Nat) (cs : Array Value) (hr : (rowOf w g).size = 32) (hc : cs.size = 32) (h1 : cs.all (·.oneCell') = true) :
    (storeAgg 33 (.pointer (some ⟨g, 0, none⟩)) (.agg cs)).run Tryd.prog w = .ok .skip (w.setRow g cs) :=
  run_storeAgg 32 33 (by omega) (by kernel_rfl) w g cs hr hc h1
theorem run_mid {P : Program} {t e : TypeId} (ht : P.underlying t = some (.slice e)) (hsz : (P.info? e).map (·.size) = some 1) (A : Option Addr) (n c x y : Nat) (hx : x ≤ y) (hy : y ≤ c) (w : World) :
    (Instr.sliceAt t (.slice A n c) (some (.int .i64 x)) (some (.int .i64 y)) none).run P w = .ok (.slice (subA A c x) (y - x) (c - x)) w := by
  have he : P.elem t = e := by simp [Program.elem, ht]
  have ht' : P.underlying t = some (.slice (P.elem t)) := by rw [he]; exact ht
  obtain ⟨i, hi, hs⟩ := Option.map_eq_some_iff.1 hsz
  have hso : (sizeOf (P.elem t)).run P w = .ok 1 w := by rw [he]; simp [sizeOf, typeInfo, hi, hs]
  rw [run_sliceAt_slice (t := t) (h := ht'), run_slice_lh (t := t) (a := A) (len := n) (cap := c) (ht := ht') (kl := .i64) (kh := .i64) (l := x) (h := y) (h0 := by omega) (h1 := by omega) (h2 := by omega), hso]
  simp only [Result.andThen, sliced, Int.toNat_natCast, subA_def]
theorem run_upto (A : Option Addr) (n c y : Nat) (hy : y ≤ c) (w : World) :
    (Instr.sliceAt 27 (.slice A n c) none (some (.int .i64 y)) none).run Tryd.prog w = .ok (.slice A y c) w := by
  have he : Tryd.prog.elem 27 = 5 := by simp [Program.elem, Tryd.underlying27]
  have ht' : Tryd.prog.underlying 27 = some (.slice (Tryd.prog.elem 27)) := by rw [he]; exact Tryd.underlying27
  obtain ⟨i, hi, hs⟩ := Option.map_eq_some_iff.1 (show (Tryd.prog.info? 5).map (·.size) = some 1 by kernel_rfl)
  have hso : (sizeOf (Tryd.prog.elem 27)).run Tryd.prog w = .ok 1 w := by rw [he]; simp [sizeOf, typeInfo, hi, hs]
  rw [run_sliceAt_slice (t := 27) (h := ht'), run_slice_h (t := 27) (a := A) (len := n) (cap := c) (ht := ht') (kh := .i64) (h := y) (h0 := by omega) (h2 := by omega), hso]
  have e0 : Option.map (fun x : Addr => x.add 0) A = A := by
    cases A with
    | none => rfl
    | some a => cases a with
      | mk b o s => cases s <;> simp [Addr.add]
  by_cases h0 : c = 0 <;> simp [Result.andThen, sliced, h0, e0]
theorem Bs.setRow_to {w : World} {r : Nat} {v : Value} {l : List UInt8} {cs : Array Value} (h : Bs w v l) (hr : ∃ B, B ≤ r ∧ ∃ w0 : World, B = w0.heap.size ∧ Bs w0 v l) : Bs (w.setRow r cs) v l := by
  obtain ⟨B, hB, w0, rfl, h0⟩ := hr
  obtain ⟨A, c, rfl, h1, h2, h3⟩ := h
  obtain ⟨A', c', e, _, _, h4⟩ := h0
  refine ⟨A, c, rfl, h1, h2, fun hl => ?_⟩
  obtain ⟨b, o, rfl, hb, hc⟩ := h3 hl
  obtain ⟨b', o', e2, hb', _⟩ := h4 hl
  rw [e2] at e
  injection e with e3 e4 e5
  injection e3 with e3
  injection e3 with e6 e7 e8
  refine ⟨b, o, rfl, by simp [World.setRow]; exact hb, fun i hi => (World.cell?_of_block (w := w) (a := ⟨b, o + i, none⟩) (setRow_other w r b _ (by omega))).trans (hc i hi)⟩
set_option maxRecDepth 100000 in
set_option maxHeartbeats 12800000 in
theorem shaparts_any (A : Option Addr) (c : Nat) (b : List UInt8) (x y : Nat) (w : World) (he : ShaEnv w) (hb : Bs w (.slice A b.length c) b) (h1 : b.length ≤ 500) (hxy : x ≤ y) (hyn : y ≤ b.length) :
    Calls Tryd.prog 12 #[.slice A b.length c, .int .i64 x, .int .i64 y] w (TrueRes' w) := by
  have hb0 := hb
  obtain ⟨A', c', e', hcc, -, -⟩ := id hb
  injection e' with e1 e2 e3
  subst e3
  clear e1 e2
  obtain ⟨D, hD⟩ : ∃ D, D = shaB b := ⟨_, rfl⟩
  have hDl : D.length = 32 := by rw [hD, shaB_length]
  have hf1 : [b].flatten = b := by simp
  have hf2 : [b.take x, (b.drop x).take (y - x), b.drop y].flatten = b := by
    have e1 : b.drop y = (b.drop x).drop (y - x) := by rw [List.drop_drop]; congr 1; omega
    simp only [List.flatten_cons, List.flatten_nil, List.append_nil]
    rw [e1, List.take_append_drop, List.take_append_drop]
  have hf3 : [b.take y, [], b.drop y].flatten = b := by simp
  have m1 := fun g base v vl (W : World) q1 q2 q3 q4 q5 => keep_any g base 0 v vl [] [b] W q1 q2 q3 (by simp) q4 (by rw [hf1]; omega) q5 (by omega) (by omega)
  have m2 := fun g base v vl (W : World) q1 q2 q3 q4 q5 => keep_any g base (0 + 1) v vl ([] ++ [b]) [b.take x, (b.drop x).take (y - x), b.drop y] W q1 q2 q3 (by simp) q4 (by rw [hf2]; omega) q5 (by omega) (by omega)
  have m3 := fun g base v vl (W : World) q1 q2 q3 q4 q5 => keep_any g base (0 + 1 + 1) v vl ([] ++ [b] ++ [b]) [b.take y, [], b.drop y] W q1 q2 q3 (by simp) q4 (by rw [hf3]; omega) q5 (by omega) (by omega)
  have m4 := fun g base v (W : World) q1 q2 q3 => alike_any g base (0 + 1 + 1 + 1) v b 3 ([] ++ [b] ++ [b] ++ [b]) W rfl q1 q2 q3 (by omega) (by omega)
  unfold KeepRes at m1 m2 m3
  unfold AlikeRes at m4
  rw [hf1, ← hD] at m1
  rw [hf2, ← hD] at m2
  rw [hf3, ← hD] at m3
  have M1 := Lib.hid m1; have M2 := Lib.hid m2; have M3 := Lib.hid m3; have M4 := Lib.hid m4
  clear hD hf1 hf2 hf3 m1 m2 m3 m4
  obtain ⟨n, hn⟩ : ∃ n, n = b.length := ⟨_, rfl⟩
  have HNB := Lib.hid hn
  rw [← hn] at hb hb0 h1 hyn hcc ⊢
  clear hn
  have i1 : ¬ (500 : Int) < n := by omega
  have i2 : ¬ (x : Int) < 0 := by omega
  have i3 : ¬ (y : Int) < x := by omega
  have i4 : ¬ (n : Int) < y := by omega
  have j1 : x ≤ c := by omega
  have j2 : y ≤ c := by omega
  have j3 : y ≤ n := hyn
  have j4 : (0 : Int) ≤ x := by omega
  have j5 : (0 : Int) ≤ y := by omega
  have j6 : (x : Int) ≤ c := by omega
  have j7 : (y : Int) ≤ c := by omega
  have hr1 := he.rounds.lt
  go_enter Tryd.func12, Tryd.ntmps12
  go_wp2_with fail
  refine (awake_any _ he).mono ?_
  rintro e w1 ⟨rfl, HB⟩
  replace he := he.step HB; replace hb := hb.step HB
  have hz1 := HB.size
  go_wp2_with fail
  refine (new_any true _).mono ?_
  rintro e w2 ⟨g, rfl, hm, hg, hb2⟩
  replace he := he.step hb2; replace hb := hb.step hb2
  replace HB := HB.trans (hb2.mono HB.size)
  have hgl := RowIs.lt hm
  have hz := HB.size
  clear hb2
  obtain ⟨base, hbase⟩ : ∃ k, k = w2.heap.size := ⟨_, rfl⟩
  have own : OwnL w2 base (.slice none 0 0) [] := OwnL.nil _ _
  have hq : Below w2.heap.size w2 (w2.alloc (.cells #[.slice A n c] 27)) := (by repeat (first | with_reducible exact Below.refl _ _ | with_reducible assumption | refine Below.drew ?_ | refine below_drewN ?_ | refine Below.alloc ?_ (by first | omega | (simp; done) | (simp; omega)) _ | refine below_setRow ?_ (by omega) _ | refine Below.setCell ?_ (by first | omega | (simp; done) | (simp; omega)) _))
  have LL := BsL.lit1 (gg := w2.heap.size) 27 rfl hb
  replace hm : Met _ g 0 true (.slice none 0 0) := RowIs.step hm hq
  replace own := own.step hq
  replace he := he.step hq; replace hb := hb.step hq
  replace HB := HB.trans (hq.mono HB.size)
  have hbz : base ≤ (w2.alloc (.cells #[.slice A n c] 27)).heap.size := by rw [hbase]; exact hq.size
  have hwb : w.heap.size ≤ base := by omega
  have hwg : w.heap.size ≤ g := by omega
  have hgb : g < base := by omega
  clear hq
  go_wp2_with fail
  refine (M1.out g base _ _ _ hm own hbz LL he).mono ?_
  rintro e w3 ⟨rfl, ⟨v1, hm', own', -⟩, ks⟩
  replace he := ks.env hm he
  replace hb := ks.bs _ _ hb
  replace HB := HB.trans (ks.below _ hwb hwg)
  replace hbz := Nat.le_trans hbz ks.size
  have hm := hm'; have own := own'
  clear hm' own' LL ks hbase hgl hz
  have hq : Below w3.heap.size w3 (w3.alloc (.cells (u8s D) 33)) := (by repeat (first | with_reducible exact Below.refl _ _ | with_reducible assumption | refine Below.drew ?_ | refine below_drewN ?_ | refine Below.alloc ?_ (by first | omega | (simp; done) | (simp; omega)) _ | refine below_setRow ?_ (by omega) _ | refine Below.setCell ?_ (by first | omega | (simp; done) | (simp; omega)) _))
  have Q1 : RowIs (w3.alloc (.cells (u8s D) 33)) w3.heap.size (u8s D) := RowIs.new _ _ _
  have hq1 : g < w3.heap.size := by omega
  replace hm : Met _ g (0 + 1) true v1 := RowIs.step hm hq
  replace own := own.step hq
  replace he := he.step hq; replace hb := hb.step hq
  replace HB := HB.trans (hq.mono HB.size)
  replace hbz := Nat.le_trans hbz hq.size
  clear hq
  have hto1 : ∀ w, (Instr.sliceAt 27 (.slice A n c) none (some (.int .i64 x)) none).run Tryd.prog w = .ok (.slice A x c) w := fun w => run_upto A n c x j1 w
  have hto2 : ∀ w, (Instr.sliceAt 27 (.slice A n c) none (some (.int .i64 y)) none).run Tryd.prog w = .ok (.slice A y c) w := fun w => run_upto A n c y j2 w
  have hmid : ∀ w, (Instr.sliceAt 27 (.slice A n c) (some (.int .i64 x)) (some (.int .i64 y)) none).run Tryd.prog w = .ok (.slice (subA A c x) (y - x) (c - x)) w := run_mid Tryd.underlying27 (by kernel_rfl) A n c x y hxy j2
  have hfrom : ∀ w, (Instr.sliceAt 27 (.slice A n c) (some (.int .i64 y)) none none).run Tryd.prog w = .ok (.slice (subA A c y) (n - y) (c - y)) w := run_from Tryd.underlying27 (by kernel_rfl) A n c y hyn
  go_wp2_with fail
  have hq : Below (w3.alloc (.cells (u8s D) 33)).heap.size (w3.alloc (.cells (u8s D) 33)) (w3.alloc (.cells (u8s D) 33)).drew := (by repeat (first | with_reducible exact Below.refl _ _ | with_reducible assumption | refine Below.drew ?_ | refine below_drewN ?_ | refine Below.alloc ?_ (by first | omega | (simp; done) | (simp; omega)) _ | refine below_setRow ?_ (by omega) _ | refine Below.setCell ?_ (by first | omega | (simp; done) | (simp; omega)) _))
  replace hm := RowIs.step hm hq
  replace own := own.step hq
  replace he := he.step hq; replace hb := hb.step hq; replace Q1 := Q1.step hq
  replace HB := HB.trans (hq.mono HB.size)
  replace hbz := Nat.le_trans hbz hq.size
  refine wp_region_lexF [] [] 13 _ (fun _ => True) rfl (by kernel_rfl) (by decide +kernel) trivial (fun _ => ?_)
  clear hq
  generalize (w3.alloc (.cells (u8s D) 33)).drew = d1 at hm own he hb HB hbz Q1 ⊢
  (go_wp2_with (first | (refine wpLexF_here rfl ?_) | (refine wpLexF_pure (by decide) rfl (fun _ _ => ?_); go_simp; refine ⟨_, fun w9 hw9 => (by trivial; go_simp; rfl), ?_⟩) | (refine wpLexF_pure0 (by decide) rfl (fun _ _ => ?_); go_simp; try go_bits)))
  refine wpLexF_loud (by decide) rfl (fun KL hKL => ?_) (fun KL hKL => ?_)
  · skip
    go_wp2_with fail
    have LL := BsL.lit3 (gg := d1.heap.size) 27 rfl (hb.take x (by omega)) ((hb.drop x (by omega)).take (y - x) (by omega)) (hb.drop y hyn)
    have hq : Below d1.heap.size d1 (d1.alloc (.cells #[.slice A x c, .slice (subA A c x) (y - x) (c - x), .slice (subA A c y) (n - y) (c - y)] 27)) := (by repeat (first | with_reducible exact Below.refl _ _ | with_reducible assumption | refine Below.drew ?_ | refine below_drewN ?_ | refine Below.alloc ?_ (by first | omega | (simp; done) | (simp; omega)) _ | refine below_setRow ?_ (by omega) _ | refine Below.setCell ?_ (by first | omega | (simp; done) | (simp; omega)) _))
    replace hm := RowIs.step hm hq
    replace own := own.step hq
    replace he := he.step hq; replace hb := hb.step hq; replace Q1 := Q1.step hq
    replace HB := HB.trans (hq.mono HB.size)
    replace hbz := Nat.le_trans hbz hq.size
    clear hq
    generalize (d1.alloc (.cells #[.slice A x c, .slice (subA A c x) (y - x) (c - x), .slice (subA A c y) (n - y) (c - y)] 27)) = x2 at LL hm own he hb HB hbz Q1 ⊢
    obtain ⟨l3, hl_⟩ : ∃ k, k = d1.heap.size := ⟨_, rfl⟩
    rw [← hl_] at LL ⊢
    clear hl_
    refine hKL _ _ trivial (fun _ => ?_)
    (go_wp2_with (first | (refine wpLexF_here rfl ?_) | (refine wpLexF_pure (by decide) rfl (fun _ _ => ?_); go_simp; refine ⟨_, fun w9 hw9 => (by trivial; go_simp; rfl), ?_⟩) | (refine wpLexF_pure0 (by decide) rfl (fun _ _ => ?_); go_simp; try go_bits)))
    refine wpLexF_loud (by decide) rfl (fun KL hKL => ?_) (fun KL hKL => ?_)
    · skip
      go_wp2_with fail
      refine (M2.out g base _ _ _ hm own hbz LL he).mono ?_
      rintro e s4 ⟨rfl, ⟨v5, hm', own', kp'⟩, ks⟩
      replace he := ks.env hm he
      replace hb := ks.bs _ _ hb
      replace Q1 := ks.row _ _ Q1 (by omega) (key_no hDl)
      replace HB := HB.trans (ks.below _ hwb hwg)
      replace hbz := Nat.le_trans hbz ks.size
      replace hm := hm'; replace own := own'
      clear hm' own' kp' LL ks
      go_wp2_with fail
      refine hKL _ _ trivial (fun _ => ?_)
      (go_wp2_with (first | (refine wpLexF_here rfl ?_) | (refine wpLexF_pure (by decide) rfl (fun _ _ => ?_); go_simp; refine ⟨_, fun w9 hw9 => (by trivial; go_simp; rfl), ?_⟩) | (refine wpLexF_pure0 (by decide) rfl (fun _ _ => ?_); go_simp; try go_bits)))
      (go_wp2_with (first | (refine wpLexD_skip rfl ?_) | (refine wpLexD_pure (by decide) rfl (fun _ _ => ?_); go_simp; refine ⟨_, fun w9 hw9 => (by trivial; go_simp; rfl), ?_⟩) | (refine wpLexD_pure0 (by decide) rfl (fun _ _ => ?_); go_simp; try go_bits) | (refine wpLexD_loud (by decide) rfl (fun KL hKL => ?_)) | (refine wpLexS_nil ?_) | (refine wpLexS_pure rfl (fun _ _ => ?_); go_simp; refine ⟨_, fun w9 hw9 => (by trivial; go_simp; rfl), ?_⟩) | (refine wpLexS_pure0 rfl (fun _ _ => ?_); go_simp; try go_bits) | (refine wpLexS_read rfl (fun _ _ => ?_); go_simp; try go_bits) | (refine wpLexS_loud rfl (fun KL hKL => ?_))))
      have QZ : RowIs (s4.alloc (.cells (u8s (zeros 32)) 33)) s4.heap.size (u8s (zeros 32)) := RowIs.new _ _ _
      have hq : Below s4.heap.size s4 (s4.alloc (.cells (u8s (zeros 32)) 33)) := (by repeat (first | with_reducible exact Below.refl _ _ | with_reducible assumption | refine Below.drew ?_ | refine below_drewN ?_ | refine Below.alloc ?_ (by first | omega | (simp; done) | (simp; omega)) _ | refine below_setRow ?_ (by omega) _ | refine Below.setCell ?_ (by first | omega | (simp; done) | (simp; omega)) _))
      have hrz : base ≤ s4.heap.size := hbz
      have hr0 : s4.heap.size = s4.heap.size := rfl
      have ltQ1 := Q1.lt
      have hbv := hb
      have kp := Kept.of own (Nat.le_refl _)
      replace kp := kp.step hq
      replace hm := RowIs.step hm hq
      replace own := own.step hq
      replace he := he.step hq; replace hb := hb.step hq; replace Q1 := Q1.step hq
      replace HB := HB.trans (hq.mono HB.size)
      replace hbz := Nat.le_trans hbz hq.size
      clear hq hr0
      generalize (s4.alloc (.cells (u8s (zeros 32)) 33)) = a6 at QZ kp hm own he hb HB hbz Q1 ⊢
      obtain ⟨r7, hr_⟩ : ∃ k, k = s4.heap.size := ⟨_, rfl⟩
      rw [← hr_] at QZ kp hrz ltQ1 ⊢
      have hbS : ∃ B, B ≤ r7 ∧ ∃ w0 : World, B = w0.heap.size ∧ Bs w0 (.slice A n c) b := ⟨s4.heap.size, by omega, s4, rfl, hbv⟩
      have hq2 : g < r7 := by omega
      clear hr_ hbv
      refine hKL _ _ trivial (fun _ => ?_)
      have hst := sstore a6 r7 (u8s D) (by rw [QZ.has, u8s_size, zeros_length]) (by rw [u8s_size, hDl]) (u8s_one D)
      have ownN := own.ne_row QZ (key_no (zeros_length 32))
      (go_wp2_with (first | (refine wpLexD_skip rfl ?_) | (refine wpLexD_pure (by decide) rfl (fun _ _ => ?_); go_simp; refine ⟨_, fun w9 hw9 => (by trivial; go_simp; rfl), ?_⟩) | (refine wpLexD_pure0 (by decide) rfl (fun _ _ => ?_); go_simp; try go_bits) | (refine wpLexD_loud (by decide) rfl (fun KL hKL => ?_)) | (refine wpLexS_nil ?_) | (refine wpLexS_pure rfl (fun _ _ => ?_); go_simp; refine ⟨_, fun w9 hw9 => (by trivial; go_simp; rfl), ?_⟩) | (refine wpLexS_pure0 rfl (fun _ _ => ?_); go_simp; try go_bits) | (refine wpLexS_read rfl (fun _ _ => ?_); go_simp; try go_bits) | (refine wpLexS_loud rfl (fun KL hKL => ?_))))
      have Q2 := QZ.set (u8s D)
      replace hm := RowIs.set_ne hm (show g ≠ r7 by omega) (u8s D)
      have own' := kp.setRow ownN (u8s D)
      replace own := own'
      replace Q1 := Q1.set_ne (show w3.heap.size ≠ r7 by omega) (u8s D)
      replace he : ShaEnv (a6.setRow r7 (u8s D)) := ⟨he.rounds.set_ne (by omega) _, he.start.set_ne (by omega) _⟩
      replace hb := hb.setRow_to (cs := u8s D) hbS
      replace HB : Below w.heap.size w (a6.setRow r7 (u8s D)) := below_setRow HB (by omega) _
      replace hbz : base ≤ (a6.setRow r7 (u8s D)).heap.size := by simpa [World.setRow] using hbz
      refine hKL _ _ trivial (fun _ => ?_)
      clear hst QZ hbS ownN own' kp
      generalize (a6.setRow r7 (u8s D)) = e8 at hm own he hb HB hbz Q2 Q1 ⊢
      go_wp2_with (refine wpLexS_nil ?_)
      have hq : Below (e8).heap.size (e8) (e8).drew := (by repeat (first | with_reducible exact Below.refl _ _ | with_reducible assumption | refine Below.drew ?_ | refine below_drewN ?_ | refine Below.alloc ?_ (by first | omega | (simp; done) | (simp; omega)) _ | refine below_setRow ?_ (by omega) _ | refine Below.setCell ?_ (by first | omega | (simp; done) | (simp; omega)) _))
      replace hm := RowIs.step hm hq
      replace own := own.step hq
      replace he := he.step hq; replace hb := hb.step hq; replace Q1 := Q1.step hq; replace Q2 := Q2.step hq
      replace HB := HB.trans (hq.mono HB.size)
      replace hbz := Nat.le_trans hbz hq.size
      refine wp_region_lexF [] [] 9 _ (fun _ => True) rfl (by kernel_rfl) (by decide +kernel) trivial (fun _ => ?_)
      clear hq
      generalize (e8).drew = d9 at hm own he hb HB hbz Q1 Q2 ⊢
      (go_wp2_with (first | (refine wpLexF_here rfl ?_) | (refine wpLexF_pure (by decide) rfl (fun _ _ => ?_); go_simp; refine ⟨_, fun w9 hw9 => (by trivial; go_simp; rfl), ?_⟩) | (refine wpLexF_pure0 (by decide) rfl (fun _ _ => ?_); go_simp; try go_bits)))
      refine wpLexF_loud (by decide) rfl (fun KL hKL => ?_) (fun KL hKL => ?_)
      · skip
        go_wp2_with fail
        have LL := BsL.lit3 (gg := d9.heap.size) 27 rfl (hb.take y hyn) (Bs.nil _) (hb.drop y hyn)
        have hq : Below d9.heap.size d9 (d9.alloc (.cells #[.slice A y c, .slice none 0 0, .slice (subA A c y) (n - y) (c - y)] 27)) := (by repeat (first | with_reducible exact Below.refl _ _ | with_reducible assumption | refine Below.drew ?_ | refine below_drewN ?_ | refine Below.alloc ?_ (by first | omega | (simp; done) | (simp; omega)) _ | refine below_setRow ?_ (by omega) _ | refine Below.setCell ?_ (by first | omega | (simp; done) | (simp; omega)) _))
        replace hm := RowIs.step hm hq
        replace own := own.step hq
        replace he := he.step hq; replace hb := hb.step hq; replace Q1 := Q1.step hq; replace Q2 := Q2.step hq
        replace HB := HB.trans (hq.mono HB.size)
        replace hbz := Nat.le_trans hbz hq.size
        clear hq
        generalize (d9.alloc (.cells #[.slice A y c, .slice none 0 0, .slice (subA A c y) (n - y) (c - y)] 27)) = x10 at LL hm own he hb HB hbz Q1 Q2 ⊢
        obtain ⟨l11, hl_⟩ : ∃ k, k = d9.heap.size := ⟨_, rfl⟩
        rw [← hl_] at LL ⊢
        clear hl_
        refine hKL _ _ trivial (fun _ => ?_)
        (go_wp2_with (first | (refine wpLexF_here rfl ?_) | (refine wpLexF_pure (by decide) rfl (fun _ _ => ?_); go_simp; refine ⟨_, fun w9 hw9 => (by trivial; go_simp; rfl), ?_⟩) | (refine wpLexF_pure0 (by decide) rfl (fun _ _ => ?_); go_simp; try go_bits)))
        refine wpLexF_loud (by decide) rfl (fun KL hKL => ?_) (fun KL hKL => ?_)
        · skip
          go_wp2_with fail
          refine (M3.out g base _ _ _ hm own hbz LL he).mono ?_
          rintro e s12 ⟨rfl, ⟨v13, hm', own', kp'⟩, ks⟩
          replace he := ks.env hm he
          replace hb := ks.bs _ _ hb
          replace Q1 := ks.row _ _ Q1 (by omega) (key_no hDl)
          replace Q2 := ks.row _ _ Q2 (by omega) (key_no hDl)
          replace HB := HB.trans (ks.below _ hwb hwg)
          replace hbz := Nat.le_trans hbz ks.size
          replace hm := hm'; replace own := own'
          clear hm' own' kp' LL ks
          go_wp2_with fail
          refine hKL _ _ trivial (fun _ => ?_)
          (go_wp2_with (first | (refine wpLexF_here rfl ?_) | (refine wpLexF_pure (by decide) rfl (fun _ _ => ?_); go_simp; refine ⟨_, fun w9 hw9 => (by trivial; go_simp; rfl), ?_⟩) | (refine wpLexF_pure0 (by decide) rfl (fun _ _ => ?_); go_simp; try go_bits)))
          (go_wp2_with (first | (refine wpLexD_skip rfl ?_) | (refine wpLexD_pure (by decide) rfl (fun _ _ => ?_); go_simp; refine ⟨_, fun w9 hw9 => (by trivial; go_simp; rfl), ?_⟩) | (refine wpLexD_pure0 (by decide) rfl (fun _ _ => ?_); go_simp; try go_bits) | (refine wpLexD_loud (by decide) rfl (fun KL hKL => ?_)) | (refine wpLexS_nil ?_) | (refine wpLexS_pure rfl (fun _ _ => ?_); go_simp; refine ⟨_, fun w9 hw9 => (by trivial; go_simp; rfl), ?_⟩) | (refine wpLexS_pure0 rfl (fun _ _ => ?_); go_simp; try go_bits) | (refine wpLexS_read rfl (fun _ _ => ?_); go_simp; try go_bits) | (refine wpLexS_loud rfl (fun KL hKL => ?_))))
          have QZ : RowIs (s12.alloc (.cells (u8s (zeros 32)) 33)) s12.heap.size (u8s (zeros 32)) := RowIs.new _ _ _
          have hq : Below s12.heap.size s12 (s12.alloc (.cells (u8s (zeros 32)) 33)) := (by repeat (first | with_reducible exact Below.refl _ _ | with_reducible assumption | refine Below.drew ?_ | refine below_drewN ?_ | refine Below.alloc ?_ (by first | omega | (simp; done) | (simp; omega)) _ | refine below_setRow ?_ (by omega) _ | refine Below.setCell ?_ (by first | omega | (simp; done) | (simp; omega)) _))
          have hrz : base ≤ s12.heap.size := hbz
          have hr0 : s12.heap.size = s12.heap.size := rfl
          have ltQ1 := Q1.lt
          have ltQ2 := Q2.lt
          have hbv := hb
          have kp := Kept.of own (Nat.le_refl _)
          replace kp := kp.step hq
          replace hm := RowIs.step hm hq
          replace own := own.step hq
          replace he := he.step hq; replace hb := hb.step hq; replace Q1 := Q1.step hq; replace Q2 := Q2.step hq
          replace HB := HB.trans (hq.mono HB.size)
          replace hbz := Nat.le_trans hbz hq.size
          clear hq hr0
          generalize (s12.alloc (.cells (u8s (zeros 32)) 33)) = a14 at QZ kp hm own he hb HB hbz Q1 Q2 ⊢
          obtain ⟨r15, hr_⟩ : ∃ k, k = s12.heap.size := ⟨_, rfl⟩
          rw [← hr_] at QZ kp hrz ltQ1 ltQ2 ⊢
          have hbS : ∃ B, B ≤ r15 ∧ ∃ w0 : World, B = w0.heap.size ∧ Bs w0 (.slice A n c) b := ⟨s12.heap.size, by omega, s12, rfl, hbv⟩
          have hq3 : g < r15 := by omega
          clear hr_ hbv
          refine hKL _ _ trivial (fun _ => ?_)
          have hst := sstore a14 r15 (u8s D) (by rw [QZ.has, u8s_size, zeros_length]) (by rw [u8s_size, hDl]) (u8s_one D)
          have ownN := own.ne_row QZ (key_no (zeros_length 32))
          (go_wp2_with (first | (refine wpLexD_skip rfl ?_) | (refine wpLexD_pure (by decide) rfl (fun _ _ => ?_); go_simp; refine ⟨_, fun w9 hw9 => (by trivial; go_simp; rfl), ?_⟩) | (refine wpLexD_pure0 (by decide) rfl (fun _ _ => ?_); go_simp; try go_bits) | (refine wpLexD_loud (by decide) rfl (fun KL hKL => ?_)) | (refine wpLexS_nil ?_) | (refine wpLexS_pure rfl (fun _ _ => ?_); go_simp; refine ⟨_, fun w9 hw9 => (by trivial; go_simp; rfl), ?_⟩) | (refine wpLexS_pure0 rfl (fun _ _ => ?_); go_simp; try go_bits) | (refine wpLexS_read rfl (fun _ _ => ?_); go_simp; try go_bits) | (refine wpLexS_loud rfl (fun KL hKL => ?_))))
          have Q3 := QZ.set (u8s D)
          replace hm := RowIs.set_ne hm (show g ≠ r15 by omega) (u8s D)
          have own' := kp.setRow ownN (u8s D)
          replace own := own'
          replace Q1 := Q1.set_ne (show w3.heap.size ≠ r15 by omega) (u8s D)
          replace Q2 := Q2.set_ne (show r7 ≠ r15 by omega) (u8s D)
          replace he : ShaEnv (a14.setRow r15 (u8s D)) := ⟨he.rounds.set_ne (by omega) _, he.start.set_ne (by omega) _⟩
          replace hb := hb.setRow_to (cs := u8s D) hbS
          replace HB : Below w.heap.size w (a14.setRow r15 (u8s D)) := below_setRow HB (by omega) _
          replace hbz : base ≤ (a14.setRow r15 (u8s D)).heap.size := by simpa [World.setRow] using hbz
          refine hKL _ _ trivial (fun _ => ?_)
          clear hst QZ hbS ownN own' kp
          generalize (a14.setRow r15 (u8s D)) = e16 at hm own he hb HB hbz Q3 Q1 Q2 ⊢
          go_wp2_with (refine wpLexS_nil ?_)
          clear hto1 hto2 hmid hfrom
          go_wp2_with fail
          refine (M4.out g base _ e16 hm own he).mono ?_
          rintro e t17 ⟨rfl, hm', own', hu⟩
          replace Q1 := Q1.upd hu (by omega)
          replace Q2 := Q2.upd hu (by omega)
          replace Q3 := Q3.upd hu (by omega)
          replace HB := hu.below HB (by omega) HB.size
          clear hu own own' hb he hm
          go_wp2_with fail
          refine (count_any g _ _ _ _ hm').mono ?_
          rintro e u9 ⟨rfl, rfl⟩
          have L1 := sload Q1 hDl
          have L2 := sload Q2 hDl
          have L3 := sload Q3 hDl
          clear hm' Q1 Q2 Q3
          go_wp2_with fail
          go_ret
          exact ⟨by simp, HB⟩
        · skip
          go_wp2_with fail
          have QZ : RowIs (x10.alloc (.cells (u8s (zeros 32)) 33)) x10.heap.size (u8s (zeros 32)) := RowIs.new _ _ _
          have hq : Below x10.heap.size x10 (x10.alloc (.cells (u8s (zeros 32)) 33)) := (by repeat (first | with_reducible exact Below.refl _ _ | with_reducible assumption | refine Below.drew ?_ | refine below_drewN ?_ | refine Below.alloc ?_ (by first | omega | (simp; done) | (simp; omega)) _ | refine below_setRow ?_ (by omega) _ | refine Below.setCell ?_ (by first | omega | (simp; done) | (simp; omega)) _))
          have hrz : base ≤ x10.heap.size := hbz
          have hr0 : x10.heap.size = x10.heap.size := rfl
          have ltQ1 := Q1.lt
          have ltQ2 := Q2.lt
          have hbv := hb
          have kp := Kept.of own (Nat.le_refl _)
          replace kp := kp.step hq
          replace hm := RowIs.step hm hq
          replace own := own.step hq
          replace he := he.step hq; replace hb := hb.step hq; replace Q1 := Q1.step hq; replace Q2 := Q2.step hq; replace LL := LL.step hq
          replace HB := HB.trans (hq.mono HB.size)
          replace hbz := Nat.le_trans hbz hq.size
          clear hq hr0
          generalize (x10.alloc (.cells (u8s (zeros 32)) 33)) = a18 at QZ kp hm own he hb HB hbz Q1 Q2 LL ⊢
          obtain ⟨r19, hr_⟩ : ∃ k, k = x10.heap.size := ⟨_, rfl⟩
          rw [← hr_] at QZ kp hrz ltQ1 ltQ2 ⊢
          have hbS : ∃ B, B ≤ r19 ∧ ∃ w0 : World, B = w0.heap.size ∧ Bs w0 (.slice A n c) b := ⟨x10.heap.size, by omega, x10, rfl, hbv⟩
          have hq3 : g < r19 := by omega
          clear hr_ hbv
          refine hKL _ _ trivial (fun _ => ?_)
          (go_wp2_with (first | (refine wpLexD_skip rfl ?_) | (refine wpLexD_pure (by decide) rfl (fun _ _ => ?_); go_simp; refine ⟨_, fun w9 hw9 => (by trivial; go_simp; rfl), ?_⟩) | (refine wpLexD_pure0 (by decide) rfl (fun _ _ => ?_); go_simp; try go_bits) | (refine wpLexD_loud (by decide) rfl (fun KL hKL => ?_)) | (refine wpLexS_nil ?_) | (refine wpLexS_pure rfl (fun _ _ => ?_); go_simp; refine ⟨_, fun w9 hw9 => (by trivial; go_simp; rfl), ?_⟩) | (refine wpLexS_pure0 rfl (fun _ _ => ?_); go_simp; try go_bits) | (refine wpLexS_read rfl (fun _ _ => ?_); go_simp; try go_bits) | (refine wpLexS_loud rfl (fun KL hKL => ?_))))
          go_wp2_with fail
          refine (M3.out g base _ _ _ hm own hbz LL he).mono ?_
          rintro e s20 ⟨rfl, ⟨v21, hm', own', kp'⟩, ks⟩
          replace kp := kp' r19 (RowIs.lt QZ) kp
          replace he := ks.env hm he
          replace hb := ks.bs _ _ hb
          replace Q1 := ks.row _ _ Q1 (by omega) (key_no hDl)
          replace Q2 := ks.row _ _ Q2 (by omega) (key_no hDl)
          replace QZ := ks.row _ _ QZ (by omega) (key_no (zeros_length 32))
          replace HB := HB.trans (ks.below _ hwb hwg)
          replace hbz := Nat.le_trans hbz ks.size
          replace hm := hm'; replace own := own'
          clear hm' own' kp' LL ks
          go_wp2_with fail
          refine hKL _ _ trivial (fun _ => ?_)
          have hst := sstore s20 r19 (u8s D) (by rw [QZ.has, u8s_size, zeros_length]) (by rw [u8s_size, hDl]) (u8s_one D)
          have ownN := own.ne_row QZ (key_no (zeros_length 32))
          (go_wp2_with (first | (refine wpLexD_skip rfl ?_) | (refine wpLexD_pure (by decide) rfl (fun _ _ => ?_); go_simp; refine ⟨_, fun w9 hw9 => (by trivial; go_simp; rfl), ?_⟩) | (refine wpLexD_pure0 (by decide) rfl (fun _ _ => ?_); go_simp; try go_bits) | (refine wpLexD_loud (by decide) rfl (fun KL hKL => ?_)) | (refine wpLexS_nil ?_) | (refine wpLexS_pure rfl (fun _ _ => ?_); go_simp; refine ⟨_, fun w9 hw9 => (by trivial; go_simp; rfl), ?_⟩) | (refine wpLexS_pure0 rfl (fun _ _ => ?_); go_simp; try go_bits) | (refine wpLexS_read rfl (fun _ _ => ?_); go_simp; try go_bits) | (refine wpLexS_loud rfl (fun KL hKL => ?_))))
          have Q3 := QZ.set (u8s D)
          replace hm := RowIs.set_ne hm (show g ≠ r19 by omega) (u8s D)
          have own' := kp.setRow ownN (u8s D)
          replace own := own'
          replace Q1 := Q1.set_ne (show w3.heap.size ≠ r19 by omega) (u8s D)
          replace Q2 := Q2.set_ne (show r7 ≠ r19 by omega) (u8s D)
          replace he : ShaEnv (s20.setRow r19 (u8s D)) := ⟨he.rounds.set_ne (by omega) _, he.start.set_ne (by omega) _⟩
          replace hb := hb.setRow_to (cs := u8s D) hbS
          replace HB : Below w.heap.size w (s20.setRow r19 (u8s D)) := below_setRow HB (by omega) _
          replace hbz : base ≤ (s20.setRow r19 (u8s D)).heap.size := by simpa [World.setRow] using hbz
          refine hKL _ _ trivial (fun _ => ?_)
          clear hst QZ hbS ownN own' kp
          generalize (s20.setRow r19 (u8s D)) = e22 at hm own he hb HB hbz Q3 Q1 Q2 ⊢
          go_wp2_with (refine wpLexS_nil ?_)
          clear hto1 hto2 hmid hfrom
          go_wp2_with fail
          refine (M4.out g base _ e22 hm own he).mono ?_
          rintro e t23 ⟨rfl, hm', own', hu⟩
          replace Q1 := Q1.upd hu (by omega)
          replace Q2 := Q2.upd hu (by omega)
          replace Q3 := Q3.upd hu (by omega)
          replace HB := hu.below HB (by omega) HB.size
          clear hu own own' hb he hm
          go_wp2_with fail
          refine (count_any g _ _ _ _ hm').mono ?_
          rintro e u9 ⟨rfl, rfl⟩
          have L1 := sload Q1 hDl
          have L2 := sload Q2 hDl
          have L3 := sload Q3 hDl
          clear hm' Q1 Q2 Q3
          go_wp2_with fail
          go_ret
          exact ⟨by simp, HB⟩
      · skip
        go_wp2_with fail
        have QZ : RowIs (d9.alloc (.cells (u8s (zeros 32)) 33)) d9.heap.size (u8s (zeros 32)) := RowIs.new _ _ _
        have hq : Below d9.heap.size d9 (d9.alloc (.cells (u8s (zeros 32)) 33)) := (by repeat (first | with_reducible exact Below.refl _ _ | with_reducible assumption | refine Below.drew ?_ | refine below_drewN ?_ | refine Below.alloc ?_ (by first | omega | (simp; done) | (simp; omega)) _ | refine below_setRow ?_ (by omega) _ | refine Below.setCell ?_ (by first | omega | (simp; done) | (simp; omega)) _))
        have hrz : base ≤ d9.heap.size := hbz
        have hr0 : d9.heap.size = d9.heap.size := rfl
        have ltQ1 := Q1.lt
        have ltQ2 := Q2.lt
        have hbv := hb
        have kp := Kept.of own (Nat.le_refl _)
        replace kp := kp.step hq
        replace hm := RowIs.step hm hq
        replace own := own.step hq
        replace he := he.step hq; replace hb := hb.step hq; replace Q1 := Q1.step hq; replace Q2 := Q2.step hq
        replace HB := HB.trans (hq.mono HB.size)
        replace hbz := Nat.le_trans hbz hq.size
        clear hq hr0
        generalize (d9.alloc (.cells (u8s (zeros 32)) 33)) = a24 at QZ kp hm own he hb HB hbz Q1 Q2 ⊢
        obtain ⟨r25, hr_⟩ : ∃ k, k = d9.heap.size := ⟨_, rfl⟩
        rw [← hr_] at QZ kp hrz ltQ1 ltQ2 ⊢
        have hbS : ∃ B, B ≤ r25 ∧ ∃ w0 : World, B = w0.heap.size ∧ Bs w0 (.slice A n c) b := ⟨d9.heap.size, by omega, d9, rfl, hbv⟩
        have hq3 : g < r25 := by omega
        clear hr_ hbv
        refine hKL _ _ trivial (fun _ => ?_)
        (go_wp2_with (first | (refine wpLexD_skip rfl ?_) | (refine wpLexD_pure (by decide) rfl (fun _ _ => ?_); go_simp; refine ⟨_, fun w9 hw9 => (by trivial; go_simp; rfl), ?_⟩) | (refine wpLexD_pure0 (by decide) rfl (fun _ _ => ?_); go_simp; try go_bits) | (refine wpLexD_loud (by decide) rfl (fun KL hKL => ?_)) | (refine wpLexS_nil ?_) | (refine wpLexS_pure rfl (fun _ _ => ?_); go_simp; refine ⟨_, fun w9 hw9 => (by trivial; go_simp; rfl), ?_⟩) | (refine wpLexS_pure0 rfl (fun _ _ => ?_); go_simp; try go_bits) | (refine wpLexS_read rfl (fun _ _ => ?_); go_simp; try go_bits) | (refine wpLexS_loud rfl (fun KL hKL => ?_))))
        go_wp2_with fail
        have LL := BsL.lit3 (gg := a24.heap.size) 27 rfl (hb.take y hyn) (Bs.nil _) (hb.drop y hyn)
        have hq : Below a24.heap.size a24 (a24.alloc (.cells #[.slice A y c, .slice none 0 0, .slice (subA A c y) (n - y) (c - y)] 27)) := (by repeat (first | with_reducible exact Below.refl _ _ | with_reducible assumption | refine Below.drew ?_ | refine below_drewN ?_ | refine Below.alloc ?_ (by first | omega | (simp; done) | (simp; omega)) _ | refine below_setRow ?_ (by omega) _ | refine Below.setCell ?_ (by first | omega | (simp; done) | (simp; omega)) _))
        replace hm := RowIs.step hm hq
        replace own := own.step hq
        replace he := he.step hq; replace hb := hb.step hq; replace Q1 := Q1.step hq; replace Q2 := Q2.step hq; replace QZ := QZ.step hq
        replace HB := HB.trans (hq.mono HB.size)
        replace hbz := Nat.le_trans hbz hq.size
        replace kp := kp.step hq
        clear hq
        generalize (a24.alloc (.cells #[.slice A y c, .slice none 0 0, .slice (subA A c y) (n - y) (c - y)] 27)) = x26 at LL kp hm own he hb HB hbz Q1 Q2 QZ ⊢
        obtain ⟨l27, hl_⟩ : ∃ k, k = a24.heap.size := ⟨_, rfl⟩
        rw [← hl_] at LL ⊢
        clear hl_
        refine hKL _ _ trivial (fun _ => ?_)
        (go_wp2_with (first | (refine wpLexD_skip rfl ?_) | (refine wpLexD_pure (by decide) rfl (fun _ _ => ?_); go_simp; refine ⟨_, fun w9 hw9 => (by trivial; go_simp; rfl), ?_⟩) | (refine wpLexD_pure0 (by decide) rfl (fun _ _ => ?_); go_simp; try go_bits) | (refine wpLexD_loud (by decide) rfl (fun KL hKL => ?_)) | (refine wpLexS_nil ?_) | (refine wpLexS_pure rfl (fun _ _ => ?_); go_simp; refine ⟨_, fun w9 hw9 => (by trivial; go_simp; rfl), ?_⟩) | (refine wpLexS_pure0 rfl (fun _ _ => ?_); go_simp; try go_bits) | (refine wpLexS_read rfl (fun _ _ => ?_); go_simp; try go_bits) | (refine wpLexS_loud rfl (fun KL hKL => ?_))))
        go_wp2_with fail
        refine (M3.out g base _ _ _ hm own hbz LL he).mono ?_
        rintro e s28 ⟨rfl, ⟨v29, hm', own', kp'⟩, ks⟩
        replace kp := kp' r25 (RowIs.lt QZ) kp
        replace he := ks.env hm he
        replace hb := ks.bs _ _ hb
        replace Q1 := ks.row _ _ Q1 (by omega) (key_no hDl)
        replace Q2 := ks.row _ _ Q2 (by omega) (key_no hDl)
        replace QZ := ks.row _ _ QZ (by omega) (key_no (zeros_length 32))
        replace HB := HB.trans (ks.below _ hwb hwg)
        replace hbz := Nat.le_trans hbz ks.size
        replace hm := hm'; replace own := own'
        clear hm' own' kp' LL ks
        go_wp2_with fail
        refine hKL _ _ trivial (fun _ => ?_)
        have hst := sstore s28 r25 (u8s D) (by rw [QZ.has, u8s_size, zeros_length]) (by rw [u8s_size, hDl]) (u8s_one D)
        have ownN := own.ne_row QZ (key_no (zeros_length 32))
        (go_wp2_with (first | (refine wpLexD_skip rfl ?_) | (refine wpLexD_pure (by decide) rfl (fun _ _ => ?_); go_simp; refine ⟨_, fun w9 hw9 => (by trivial; go_simp; rfl), ?_⟩) | (refine wpLexD_pure0 (by decide) rfl (fun _ _ => ?_); go_simp; try go_bits) | (refine wpLexD_loud (by decide) rfl (fun KL hKL => ?_)) | (refine wpLexS_nil ?_) | (refine wpLexS_pure rfl (fun _ _ => ?_); go_simp; refine ⟨_, fun w9 hw9 => (by trivial; go_simp; rfl), ?_⟩) | (refine wpLexS_pure0 rfl (fun _ _ => ?_); go_simp; try go_bits) | (refine wpLexS_read rfl (fun _ _ => ?_); go_simp; try go_bits) | (refine wpLexS_loud rfl (fun KL hKL => ?_))))
        have Q3 := QZ.set (u8s D)
        replace hm := RowIs.set_ne hm (show g ≠ r25 by omega) (u8s D)
        have own' := kp.setRow ownN (u8s D)
        replace own := own'
        replace Q1 := Q1.set_ne (show w3.heap.size ≠ r25 by omega) (u8s D)
        replace Q2 := Q2.set_ne (show r7 ≠ r25 by omega) (u8s D)
        replace he : ShaEnv (s28.setRow r25 (u8s D)) := ⟨he.rounds.set_ne (by omega) _, he.start.set_ne (by omega) _⟩
        replace hb := hb.setRow_to (cs := u8s D) hbS
        replace HB : Below w.heap.size w (s28.setRow r25 (u8s D)) := below_setRow HB (by omega) _
        replace hbz : base ≤ (s28.setRow r25 (u8s D)).heap.size := by simpa [World.setRow] using hbz
        refine hKL _ _ trivial (fun _ => ?_)
        clear hst QZ hbS ownN own' kp
        generalize (s28.setRow r25 (u8s D)) = e30 at hm own he hb HB hbz Q3 Q1 Q2 ⊢
        go_wp2_with (refine wpLexS_nil ?_)
        clear hto1 hto2 hmid hfrom
        go_wp2_with fail
        refine (M4.out g base _ e30 hm own he).mono ?_
        rintro e t31 ⟨rfl, hm', own', hu⟩
        replace Q1 := Q1.upd hu (by omega)
        replace Q2 := Q2.upd hu (by omega)
        replace Q3 := Q3.upd hu (by omega)
        replace HB := hu.below HB (by omega) HB.size
        clear hu own own' hb he hm
        go_wp2_with fail
        refine (count_any g _ _ _ _ hm').mono ?_
        rintro e u9 ⟨rfl, rfl⟩
        have L1 := sload Q1 hDl
        have L2 := sload Q2 hDl
        have L3 := sload Q3 hDl
        clear hm' Q1 Q2 Q3
        go_wp2_with fail
        go_ret
        exact ⟨by simp, HB⟩
    · skip
      go_wp2_with fail
      have QZ : RowIs (x2.alloc (.cells (u8s (zeros 32)) 33)) x2.heap.size (u8s (zeros 32)) := RowIs.new _ _ _
      have hq : Below x2.heap.size x2 (x2.alloc (.cells (u8s (zeros 32)) 33)) := (by repeat (first | with_reducible exact Below.refl _ _ | with_reducible assumption | refine Below.drew ?_ | refine below_drewN ?_ | refine Below.alloc ?_ (by first | omega | (simp; done) | (simp; omega)) _ | refine below_setRow ?_ (by omega) _ | refine Below.setCell ?_ (by first | omega | (simp; done) | (simp; omega)) _))
      have hrz : base ≤ x2.heap.size := hbz
      have hr0 : x2.heap.size = x2.heap.size := rfl
      have ltQ1 := Q1.lt
      have hbv := hb
      have kp := Kept.of own (Nat.le_refl _)
      replace kp := kp.step hq
      replace hm := RowIs.step hm hq
      replace own := own.step hq
      replace he := he.step hq; replace hb := hb.step hq; replace Q1 := Q1.step hq; replace LL := LL.step hq
      replace HB := HB.trans (hq.mono HB.size)
      replace hbz := Nat.le_trans hbz hq.size
      clear hq hr0
      generalize (x2.alloc (.cells (u8s (zeros 32)) 33)) = a32 at QZ kp hm own he hb HB hbz Q1 LL ⊢
      obtain ⟨r33, hr_⟩ : ∃ k, k = x2.heap.size := ⟨_, rfl⟩
      rw [← hr_] at QZ kp hrz ltQ1 ⊢
      have hbS : ∃ B, B ≤ r33 ∧ ∃ w0 : World, B = w0.heap.size ∧ Bs w0 (.slice A n c) b := ⟨x2.heap.size, by omega, x2, rfl, hbv⟩
      have hq2 : g < r33 := by omega
      clear hr_ hbv
      refine hKL _ _ trivial (fun _ => ?_)
      (go_wp2_with (first | (refine wpLexD_skip rfl ?_) | (refine wpLexD_pure (by decide) rfl (fun _ _ => ?_); go_simp; refine ⟨_, fun w9 hw9 => (by trivial; go_simp; rfl), ?_⟩) | (refine wpLexD_pure0 (by decide) rfl (fun _ _ => ?_); go_simp; try go_bits) | (refine wpLexD_loud (by decide) rfl (fun KL hKL => ?_)) | (refine wpLexS_nil ?_) | (refine wpLexS_pure rfl (fun _ _ => ?_); go_simp; refine ⟨_, fun w9 hw9 => (by trivial; go_simp; rfl), ?_⟩) | (refine wpLexS_pure0 rfl (fun _ _ => ?_); go_simp; try go_bits) | (refine wpLexS_read rfl (fun _ _ => ?_); go_simp; try go_bits) | (refine wpLexS_loud rfl (fun KL hKL => ?_))))
      go_wp2_with fail
      refine (M2.out g base _ _ _ hm own hbz LL he).mono ?_
      rintro e s34 ⟨rfl, ⟨v35, hm', own', kp'⟩, ks⟩
      replace kp := kp' r33 (RowIs.lt QZ) kp
      replace he := ks.env hm he
      replace hb := ks.bs _ _ hb
      replace Q1 := ks.row _ _ Q1 (by omega) (key_no hDl)
      replace QZ := ks.row _ _ QZ (by omega) (key_no (zeros_length 32))
      replace HB := HB.trans (ks.below _ hwb hwg)
      replace hbz := Nat.le_trans hbz ks.size
      replace hm := hm'; replace own := own'
      clear hm' own' kp' LL ks
      go_wp2_with fail
      refine hKL _ _ trivial (fun _ => ?_)
      have hst := sstore s34 r33 (u8s D) (by rw [QZ.has, u8s_size, zeros_length]) (by rw [u8s_size, hDl]) (u8s_one D)
      have ownN := own.ne_row QZ (key_no (zeros_length 32))
      (go_wp2_with (first | (refine wpLexD_skip rfl ?_) | (refine wpLexD_pure (by decide) rfl (fun _ _ => ?_); go_simp; refine ⟨_, fun w9 hw9 => (by trivial; go_simp; rfl), ?_⟩) | (refine wpLexD_pure0 (by decide) rfl (fun _ _ => ?_); go_simp; try go_bits) | (refine wpLexD_loud (by decide) rfl (fun KL hKL => ?_)) | (refine wpLexS_nil ?_) | (refine wpLexS_pure rfl (fun _ _ => ?_); go_simp; refine ⟨_, fun w9 hw9 => (by trivial; go_simp; rfl), ?_⟩) | (refine wpLexS_pure0 rfl (fun _ _ => ?_); go_simp; try go_bits) | (refine wpLexS_read rfl (fun _ _ => ?_); go_simp; try go_bits) | (refine wpLexS_loud rfl (fun KL hKL => ?_))))
      have Q2 := QZ.set (u8s D)
      replace hm := RowIs.set_ne hm (show g ≠ r33 by omega) (u8s D)
      have own' := kp.setRow ownN (u8s D)
      replace own := own'
      replace Q1 := Q1.set_ne (show w3.heap.size ≠ r33 by omega) (u8s D)
      replace he : ShaEnv (s34.setRow r33 (u8s D)) := ⟨he.rounds.set_ne (by omega) _, he.start.set_ne (by omega) _⟩
      replace hb := hb.setRow_to (cs := u8s D) hbS
      replace HB : Below w.heap.size w (s34.setRow r33 (u8s D)) := below_setRow HB (by omega) _
      replace hbz : base ≤ (s34.setRow r33 (u8s D)).heap.size := by simpa [World.setRow] using hbz
      refine hKL _ _ trivial (fun _ => ?_)
      clear hst QZ hbS ownN own' kp
      generalize (s34.setRow r33 (u8s D)) = e36 at hm own he hb HB hbz Q2 Q1 ⊢
      go_wp2_with (refine wpLexS_nil ?_)
      have hq : Below (e36).heap.size (e36) (e36).drew := (by repeat (first | with_reducible exact Below.refl _ _ | with_reducible assumption | refine Below.drew ?_ | refine below_drewN ?_ | refine Below.alloc ?_ (by first | omega | (simp; done) | (simp; omega)) _ | refine below_setRow ?_ (by omega) _ | refine Below.setCell ?_ (by first | omega | (simp; done) | (simp; omega)) _))
      replace hm := RowIs.step hm hq
      replace own := own.step hq
      replace he := he.step hq; replace hb := hb.step hq; replace Q1 := Q1.step hq; replace Q2 := Q2.step hq
      replace HB := HB.trans (hq.mono HB.size)
      replace hbz := Nat.le_trans hbz hq.size
      refine wp_region_lexF [] [] 9 _ (fun _ => True) rfl (by kernel_rfl) (by decide +kernel) trivial (fun _ => ?_)
      clear hq
      generalize (e36).drew = d37 at hm own he hb HB hbz Q1 Q2 ⊢
      (go_wp2_with (first | (refine wpLexF_here rfl ?_) | (refine wpLexF_pure (by decide) rfl (fun _ _ => ?_); go_simp; refine ⟨_, fun w9 hw9 => (by trivial; go_simp; rfl), ?_⟩) | (refine wpLexF_pure0 (by decide) rfl (fun _ _ => ?_); go_simp; try go_bits)))
      refine wpLexF_loud (by decide) rfl (fun KL hKL => ?_) (fun KL hKL => ?_)
      · skip
        go_wp2_with fail
        have LL := BsL.lit3 (gg := d37.heap.size) 27 rfl (hb.take y hyn) (Bs.nil _) (hb.drop y hyn)
        have hq : Below d37.heap.size d37 (d37.alloc (.cells #[.slice A y c, .slice none 0 0, .slice (subA A c y) (n - y) (c - y)] 27)) := (by repeat (first | with_reducible exact Below.refl _ _ | with_reducible assumption | refine Below.drew ?_ | refine below_drewN ?_ | refine Below.alloc ?_ (by first | omega | (simp; done) | (simp; omega)) _ | refine below_setRow ?_ (by omega) _ | refine Below.setCell ?_ (by first | omega | (simp; done) | (simp; omega)) _))
        replace hm := RowIs.step hm hq
        replace own := own.step hq
        replace he := he.step hq; replace hb := hb.step hq; replace Q1 := Q1.step hq; replace Q2 := Q2.step hq
        replace HB := HB.trans (hq.mono HB.size)
        replace hbz := Nat.le_trans hbz hq.size
        clear hq
        generalize (d37.alloc (.cells #[.slice A y c, .slice none 0 0, .slice (subA A c y) (n - y) (c - y)] 27)) = x38 at LL hm own he hb HB hbz Q1 Q2 ⊢
        obtain ⟨l39, hl_⟩ : ∃ k, k = d37.heap.size := ⟨_, rfl⟩
        rw [← hl_] at LL ⊢
        clear hl_
        refine hKL _ _ trivial (fun _ => ?_)
        (go_wp2_with (first | (refine wpLexF_here rfl ?_) | (refine wpLexF_pure (by decide) rfl (fun _ _ => ?_); go_simp; refine ⟨_, fun w9 hw9 => (by trivial; go_simp; rfl), ?_⟩) | (refine wpLexF_pure0 (by decide) rfl (fun _ _ => ?_); go_simp; try go_bits)))
        refine wpLexF_loud (by decide) rfl (fun KL hKL => ?_) (fun KL hKL => ?_)
        · skip
          go_wp2_with fail
          refine (M3.out g base _ _ _ hm own hbz LL he).mono ?_
          rintro e s40 ⟨rfl, ⟨v41, hm', own', kp'⟩, ks⟩
          replace he := ks.env hm he
          replace hb := ks.bs _ _ hb
          replace Q1 := ks.row _ _ Q1 (by omega) (key_no hDl)
          replace Q2 := ks.row _ _ Q2 (by omega) (key_no hDl)
          replace HB := HB.trans (ks.below _ hwb hwg)
          replace hbz := Nat.le_trans hbz ks.size
          replace hm := hm'; replace own := own'
          clear hm' own' kp' LL ks
          go_wp2_with fail
          refine hKL _ _ trivial (fun _ => ?_)
          (go_wp2_with (first | (refine wpLexF_here rfl ?_) | (refine wpLexF_pure (by decide) rfl (fun _ _ => ?_); go_simp; refine ⟨_, fun w9 hw9 => (by trivial; go_simp; rfl), ?_⟩) | (refine wpLexF_pure0 (by decide) rfl (fun _ _ => ?_); go_simp; try go_bits)))
          (go_wp2_with (first | (refine wpLexD_skip rfl ?_) | (refine wpLexD_pure (by decide) rfl (fun _ _ => ?_); go_simp; refine ⟨_, fun w9 hw9 => (by trivial; go_simp; rfl), ?_⟩) | (refine wpLexD_pure0 (by decide) rfl (fun _ _ => ?_); go_simp; try go_bits) | (refine wpLexD_loud (by decide) rfl (fun KL hKL => ?_)) | (refine wpLexS_nil ?_) | (refine wpLexS_pure rfl (fun _ _ => ?_); go_simp; refine ⟨_, fun w9 hw9 => (by trivial; go_simp; rfl), ?_⟩) | (refine wpLexS_pure0 rfl (fun _ _ => ?_); go_simp; try go_bits) | (refine wpLexS_read rfl (fun _ _ => ?_); go_simp; try go_bits) | (refine wpLexS_loud rfl (fun KL hKL => ?_))))
          have QZ : RowIs (s40.alloc (.cells (u8s (zeros 32)) 33)) s40.heap.size (u8s (zeros 32)) := RowIs.new _ _ _
          have hq : Below s40.heap.size s40 (s40.alloc (.cells (u8s (zeros 32)) 33)) := (by repeat (first | with_reducible exact Below.refl _ _ | with_reducible assumption | refine Below.drew ?_ | refine below_drewN ?_ | refine Below.alloc ?_ (by first | omega | (simp; done) | (simp; omega)) _ | refine below_setRow ?_ (by omega) _ | refine Below.setCell ?_ (by first | omega | (simp; done) | (simp; omega)) _))
          have hrz : base ≤ s40.heap.size := hbz
          have hr0 : s40.heap.size = s40.heap.size := rfl
          have ltQ1 := Q1.lt
          have ltQ2 := Q2.lt
          have hbv := hb
          have kp := Kept.of own (Nat.le_refl _)
          replace kp := kp.step hq
          replace hm := RowIs.step hm hq
          replace own := own.step hq
          replace he := he.step hq; replace hb := hb.step hq; replace Q1 := Q1.step hq; replace Q2 := Q2.step hq
          replace HB := HB.trans (hq.mono HB.size)
          replace hbz := Nat.le_trans hbz hq.size
          clear hq hr0
          generalize (s40.alloc (.cells (u8s (zeros 32)) 33)) = a42 at QZ kp hm own he hb HB hbz Q1 Q2 ⊢
          obtain ⟨r43, hr_⟩ : ∃ k, k = s40.heap.size := ⟨_, rfl⟩
          rw [← hr_] at QZ kp hrz ltQ1 ltQ2 ⊢
          have hbS : ∃ B, B ≤ r43 ∧ ∃ w0 : World, B = w0.heap.size ∧ Bs w0 (.slice A n c) b := ⟨s40.heap.size, by omega, s40, rfl, hbv⟩
          have hq3 : g < r43 := by omega
          clear hr_ hbv
          refine hKL _ _ trivial (fun _ => ?_)
          have hst := sstore a42 r43 (u8s D) (by rw [QZ.has, u8s_size, zeros_length]) (by rw [u8s_size, hDl]) (u8s_one D)
          have ownN := own.ne_row QZ (key_no (zeros_length 32))
          (go_wp2_with (first | (refine wpLexD_skip rfl ?_) | (refine wpLexD_pure (by decide) rfl (fun _ _ => ?_); go_simp; refine ⟨_, fun w9 hw9 => (by trivial; go_simp; rfl), ?_⟩) | (refine wpLexD_pure0 (by decide) rfl (fun _ _ => ?_); go_simp; try go_bits) | (refine wpLexD_loud (by decide) rfl (fun KL hKL => ?_)) | (refine wpLexS_nil ?_) | (refine wpLexS_pure rfl (fun _ _ => ?_); go_simp; refine ⟨_, fun w9 hw9 => (by trivial; go_simp; rfl), ?_⟩) | (refine wpLexS_pure0 rfl (fun _ _ => ?_); go_simp; try go_bits) | (refine wpLexS_read rfl (fun _ _ => ?_); go_simp; try go_bits) | (refine wpLexS_loud rfl (fun KL hKL => ?_))))
          have Q3 := QZ.set (u8s D)
          replace hm := RowIs.set_ne hm (show g ≠ r43 by omega) (u8s D)
          have own' := kp.setRow ownN (u8s D)
          replace own := own'
          replace Q1 := Q1.set_ne (show w3.heap.size ≠ r43 by omega) (u8s D)
          replace Q2 := Q2.set_ne (show r33 ≠ r43 by omega) (u8s D)
          replace he : ShaEnv (a42.setRow r43 (u8s D)) := ⟨he.rounds.set_ne (by omega) _, he.start.set_ne (by omega) _⟩
          replace hb := hb.setRow_to (cs := u8s D) hbS
          replace HB : Below w.heap.size w (a42.setRow r43 (u8s D)) := below_setRow HB (by omega) _
          replace hbz : base ≤ (a42.setRow r43 (u8s D)).heap.size := by simpa [World.setRow] using hbz
          refine hKL _ _ trivial (fun _ => ?_)
          clear hst QZ hbS ownN own' kp
          generalize (a42.setRow r43 (u8s D)) = e44 at hm own he hb HB hbz Q3 Q1 Q2 ⊢
          go_wp2_with (refine wpLexS_nil ?_)
          clear hto1 hto2 hmid hfrom
          go_wp2_with fail
          refine (M4.out g base _ e44 hm own he).mono ?_
          rintro e t45 ⟨rfl, hm', own', hu⟩
          replace Q1 := Q1.upd hu (by omega)
          replace Q2 := Q2.upd hu (by omega)
          replace Q3 := Q3.upd hu (by omega)
          replace HB := hu.below HB (by omega) HB.size
          clear hu own own' hb he hm
          go_wp2_with fail
          refine (count_any g _ _ _ _ hm').mono ?_
          rintro e u9 ⟨rfl, rfl⟩
          have L1 := sload Q1 hDl
          have L2 := sload Q2 hDl
          have L3 := sload Q3 hDl
          clear hm' Q1 Q2 Q3
          go_wp2_with fail
          go_ret
          exact ⟨by simp, HB⟩
        · skip
          go_wp2_with fail
          have QZ : RowIs (x38.alloc (.cells (u8s (zeros 32)) 33)) x38.heap.size (u8s (zeros 32)) := RowIs.new _ _ _
          have hq : Below x38.heap.size x38 (x38.alloc (.cells (u8s (zeros 32)) 33)) := (by repeat (first | with_reducible exact Below.refl _ _ | with_reducible assumption | refine Below.drew ?_ | refine below_drewN ?_ | refine Below.alloc ?_ (by first | omega | (simp; done) | (simp; omega)) _ | refine below_setRow ?_ (by omega) _ | refine Below.setCell ?_ (by first | omega | (simp; done) | (simp; omega)) _))
          have hrz : base ≤ x38.heap.size := hbz
          have hr0 : x38.heap.size = x38.heap.size := rfl
          have ltQ1 := Q1.lt
          have ltQ2 := Q2.lt
          have hbv := hb
          have kp := Kept.of own (Nat.le_refl _)
          replace kp := kp.step hq
          replace hm := RowIs.step hm hq
          replace own := own.step hq
          replace he := he.step hq; replace hb := hb.step hq; replace Q1 := Q1.step hq; replace Q2 := Q2.step hq; replace LL := LL.step hq
          replace HB := HB.trans (hq.mono HB.size)
          replace hbz := Nat.le_trans hbz hq.size
          clear hq hr0
          generalize (x38.alloc (.cells (u8s (zeros 32)) 33)) = a46 at QZ kp hm own he hb HB hbz Q1 Q2 LL ⊢
          obtain ⟨r47, hr_⟩ : ∃ k, k = x38.heap.size := ⟨_, rfl⟩
          rw [← hr_] at QZ kp hrz ltQ1 ltQ2 ⊢
          have hbS : ∃ B, B ≤ r47 ∧ ∃ w0 : World, B = w0.heap.size ∧ Bs w0 (.slice A n c) b := ⟨x38.heap.size, by omega, x38, rfl, hbv⟩
          have hq3 : g < r47 := by omega
          clear hr_ hbv
          refine hKL _ _ trivial (fun _ => ?_)
          (go_wp2_with (first | (refine wpLexD_skip rfl ?_) | (refine wpLexD_pure (by decide) rfl (fun _ _ => ?_); go_simp; refine ⟨_, fun w9 hw9 => (by trivial; go_simp; rfl), ?_⟩) | (refine wpLexD_pure0 (by decide) rfl (fun _ _ => ?_); go_simp; try go_bits) | (refine wpLexD_loud (by decide) rfl (fun KL hKL => ?_)) | (refine wpLexS_nil ?_) | (refine wpLexS_pure rfl (fun _ _ => ?_); go_simp; refine ⟨_, fun w9 hw9 => (by trivial; go_simp; rfl), ?_⟩) | (refine wpLexS_pure0 rfl (fun _ _ => ?_); go_simp; try go_bits) | (refine wpLexS_read rfl (fun _ _ => ?_); go_simp; try go_bits) | (refine wpLexS_loud rfl (fun KL hKL => ?_))))
          go_wp2_with fail
          refine (M3.out g base _ _ _ hm own hbz LL he).mono ?_
          rintro e s48 ⟨rfl, ⟨v49, hm', own', kp'⟩, ks⟩
          replace kp := kp' r47 (RowIs.lt QZ) kp
          replace he := ks.env hm he
          replace hb := ks.bs _ _ hb
          replace Q1 := ks.row _ _ Q1 (by omega) (key_no hDl)
          replace Q2 := ks.row _ _ Q2 (by omega) (key_no hDl)
          replace QZ := ks.row _ _ QZ (by omega) (key_no (zeros_length 32))
          replace HB := HB.trans (ks.below _ hwb hwg)
          replace hbz := Nat.le_trans hbz ks.size
          replace hm := hm'; replace own := own'
          clear hm' own' kp' LL ks
          go_wp2_with fail
          refine hKL _ _ trivial (fun _ => ?_)
          have hst := sstore s48 r47 (u8s D) (by rw [QZ.has, u8s_size, zeros_length]) (by rw [u8s_size, hDl]) (u8s_one D)
          have ownN := own.ne_row QZ (key_no (zeros_length 32))
          (go_wp2_with (first | (refine wpLexD_skip rfl ?_) | (refine wpLexD_pure (by decide) rfl (fun _ _ => ?_); go_simp; refine ⟨_, fun w9 hw9 => (by trivial; go_simp; rfl), ?_⟩) | (refine wpLexD_pure0 (by decide) rfl (fun _ _ => ?_); go_simp; try go_bits) | (refine wpLexD_loud (by decide) rfl (fun KL hKL => ?_)) | (refine wpLexS_nil ?_) | (refine wpLexS_pure rfl (fun _ _ => ?_); go_simp; refine ⟨_, fun w9 hw9 => (by trivial; go_simp; rfl), ?_⟩) | (refine wpLexS_pure0 rfl (fun _ _ => ?_); go_simp; try go_bits) | (refine wpLexS_read rfl (fun _ _ => ?_); go_simp; try go_bits) | (refine wpLexS_loud rfl (fun KL hKL => ?_))))
          have Q3 := QZ.set (u8s D)
          replace hm := RowIs.set_ne hm (show g ≠ r47 by omega) (u8s D)
          have own' := kp.setRow ownN (u8s D)
          replace own := own'
          replace Q1 := Q1.set_ne (show w3.heap.size ≠ r47 by omega) (u8s D)
          replace Q2 := Q2.set_ne (show r33 ≠ r47 by omega) (u8s D)
          replace he : ShaEnv (s48.setRow r47 (u8s D)) := ⟨he.rounds.set_ne (by omega) _, he.start.set_ne (by omega) _⟩
          replace hb := hb.setRow_to (cs := u8s D) hbS
          replace HB : Below w.heap.size w (s48.setRow r47 (u8s D)) := below_setRow HB (by omega) _
          replace hbz : base ≤ (s48.setRow r47 (u8s D)).heap.size := by simpa [World.setRow] using hbz
          refine hKL _ _ trivial (fun _ => ?_)
          clear hst QZ hbS ownN own' kp
          generalize (s48.setRow r47 (u8s D)) = e50 at hm own he hb HB hbz Q3 Q1 Q2 ⊢
          go_wp2_with (refine wpLexS_nil ?_)
          clear hto1 hto2 hmid hfrom
          go_wp2_with fail
          refine (M4.out g base _ e50 hm own he).mono ?_
          rintro e t51 ⟨rfl, hm', own', hu⟩
          replace Q1 := Q1.upd hu (by omega)
          replace Q2 := Q2.upd hu (by omega)
          replace Q3 := Q3.upd hu (by omega)
          replace HB := hu.below HB (by omega) HB.size
          clear hu own own' hb he hm
          go_wp2_with fail
          refine (count_any g _ _ _ _ hm').mono ?_
          rintro e u9 ⟨rfl, rfl⟩
          have L1 := sload Q1 hDl
          have L2 := sload Q2 hDl
          have L3 := sload Q3 hDl
          clear hm' Q1 Q2 Q3
          go_wp2_with fail
          go_ret
          exact ⟨by simp, HB⟩
      · skip
        go_wp2_with fail
        have QZ : RowIs (d37.alloc (.cells (u8s (zeros 32)) 33)) d37.heap.size (u8s (zeros 32)) := RowIs.new _ _ _
        have hq : Below d37.heap.size d37 (d37.alloc (.cells (u8s (zeros 32)) 33)) := (by repeat (first | with_reducible exact Below.refl _ _ | with_reducible assumption | refine Below.drew ?_ | refine below_drewN ?_ | refine Below.alloc ?_ (by first | omega | (simp; done) | (simp; omega)) _ | refine below_setRow ?_ (by omega) _ | refine Below.setCell ?_ (by first | omega | (simp; done) | (simp; omega)) _))
        have hrz : base ≤ d37.heap.size := hbz
        have hr0 : d37.heap.size = d37.heap.size := rfl
        have ltQ1 := Q1.lt
        have ltQ2 := Q2.lt
        have hbv := hb
        have kp := Kept.of own (Nat.le_refl _)
        replace kp := kp.step hq
        replace hm := RowIs.step hm hq
        replace own := own.step hq
        replace he := he.step hq; replace hb := hb.step hq; replace Q1 := Q1.step hq; replace Q2 := Q2.step hq
        replace HB := HB.trans (hq.mono HB.size)
        replace hbz := Nat.le_trans hbz hq.size
        clear hq hr0
        generalize (d37.alloc (.cells (u8s (zeros 32)) 33)) = a52 at QZ kp hm own he hb HB hbz Q1 Q2 ⊢
        obtain ⟨r53, hr_⟩ : ∃ k, k = d37.heap.size := ⟨_, rfl⟩
        rw [← hr_] at QZ kp hrz ltQ1 ltQ2 ⊢
        have hbS : ∃ B, B ≤ r53 ∧ ∃ w0 : World, B = w0.heap.size ∧ Bs w0 (.slice A n c) b := ⟨d37.heap.size, by omega, d37, rfl, hbv⟩
        have hq3 : g < r53 := by omega
        clear hr_ hbv
        refine hKL _ _ trivial (fun _ => ?_)
        (go_wp2_with (first | (refine wpLexD_skip rfl ?_) | (refine wpLexD_pure (by decide) rfl (fun _ _ => ?_); go_simp; refine ⟨_, fun w9 hw9 => (by trivial; go_simp; rfl), ?_⟩) | (refine wpLexD_pure0 (by decide) rfl (fun _ _ => ?_); go_simp; try go_bits) | (refine wpLexD_loud (by decide) rfl (fun KL hKL => ?_)) | (refine wpLexS_nil ?_) | (refine wpLexS_pure rfl (fun _ _ => ?_); go_simp; refine ⟨_, fun w9 hw9 => (by trivial; go_simp; rfl), ?_⟩) | (refine wpLexS_pure0 rfl (fun _ _ => ?_); go_simp; try go_bits) | (refine wpLexS_read rfl (fun _ _ => ?_); go_simp; try go_bits) | (refine wpLexS_loud rfl (fun KL hKL => ?_))))
        go_wp2_with fail
        have LL := BsL.lit3 (gg := a52.heap.size) 27 rfl (hb.take y hyn) (Bs.nil _) (hb.drop y hyn)
        have hq : Below a52.heap.size a52 (a52.alloc (.cells #[.slice A y c, .slice none 0 0, .slice (subA A c y) (n - y) (c - y)] 27)) := (by repeat (first | with_reducible exact Below.refl _ _ | with_reducible assumption | refine Below.drew ?_ | refine below_drewN ?_ | refine Below.alloc ?_ (by first | omega | (simp; done) | (simp; omega)) _ | refine below_setRow ?_ (by omega) _ | refine Below.setCell ?_ (by first | omega | (simp; done) | (simp; omega)) _))
        replace hm := RowIs.step hm hq
        replace own := own.step hq
        replace he := he.step hq; replace hb := hb.step hq; replace Q1 := Q1.step hq; replace Q2 := Q2.step hq; replace QZ := QZ.step hq
        replace HB := HB.trans (hq.mono HB.size)
        replace hbz := Nat.le_trans hbz hq.size
        replace kp := kp.step hq
        clear hq
        generalize (a52.alloc (.cells #[.slice A y c, .slice none 0 0, .slice (subA A c y) (n - y) (c - y)] 27)) = x54 at LL kp hm own he hb HB hbz Q1 Q2 QZ ⊢
        obtain ⟨l55, hl_⟩ : ∃ k, k = a52.heap.size := ⟨_, rfl⟩
        rw [← hl_] at LL ⊢
        clear hl_
        refine hKL _ _ trivial (fun _ => ?_)
        (go_wp2_with (first | (refine wpLexD_skip rfl ?_) | (refine wpLexD_pure (by decide) rfl (fun _ _ => ?_); go_simp; refine ⟨_, fun w9 hw9 => (by trivial; go_simp; rfl), ?_⟩) | (refine wpLexD_pure0 (by decide) rfl (fun _ _ => ?_); go_simp; try go_bits) | (refine wpLexD_loud (by decide) rfl (fun KL hKL => ?_)) | (refine wpLexS_nil ?_) | (refine wpLexS_pure rfl (fun _ _ => ?_); go_simp; refine ⟨_, fun w9 hw9 => (by trivial; go_simp; rfl), ?_⟩) | (refine wpLexS_pure0 rfl (fun _ _ => ?_); go_simp; try go_bits) | (refine wpLexS_read rfl (fun _ _ => ?_); go_simp; try go_bits) | (refine wpLexS_loud rfl (fun KL hKL => ?_))))
        go_wp2_with fail
        refine (M3.out g base _ _ _ hm own hbz LL he).mono ?_
        rintro e s56 ⟨rfl, ⟨v57, hm', own', kp'⟩, ks⟩
        replace kp := kp' r53 (RowIs.lt QZ) kp
        replace he := ks.env hm he
        replace hb := ks.bs _ _ hb
        replace Q1 := ks.row _ _ Q1 (by omega) (key_no hDl)
        replace Q2 := ks.row _ _ Q2 (by omega) (key_no hDl)
        replace QZ := ks.row _ _ QZ (by omega) (key_no (zeros_length 32))
        replace HB := HB.trans (ks.below _ hwb hwg)
        replace hbz := Nat.le_trans hbz ks.size
        replace hm := hm'; replace own := own'
        clear hm' own' kp' LL ks
        go_wp2_with fail
        refine hKL _ _ trivial (fun _ => ?_)
        have hst := sstore s56 r53 (u8s D) (by rw [QZ.has, u8s_size, zeros_length]) (by rw [u8s_size, hDl]) (u8s_one D)
        have ownN := own.ne_row QZ (key_no (zeros_length 32))
        (go_wp2_with (first | (refine wpLexD_skip rfl ?_) | (refine wpLexD_pure (by decide) rfl (fun _ _ => ?_); go_simp; refine ⟨_, fun w9 hw9 => (by trivial; go_simp; rfl), ?_⟩) | (refine wpLexD_pure0 (by decide) rfl (fun _ _ => ?_); go_simp; try go_bits) | (refine wpLexD_loud (by decide) rfl (fun KL hKL => ?_)) | (refine wpLexS_nil ?_) | (refine wpLexS_pure rfl (fun _ _ => ?_); go_simp; refine ⟨_, fun w9 hw9 => (by trivial; go_simp; rfl), ?_⟩) | (refine wpLexS_pure0 rfl (fun _ _ => ?_); go_simp; try go_bits) | (refine wpLexS_read rfl (fun _ _ => ?_); go_simp; try go_bits) | (refine wpLexS_loud rfl (fun KL hKL => ?_))))
        have Q3 := QZ.set (u8s D)
        replace hm := RowIs.set_ne hm (show g ≠ r53 by omega) (u8s D)
        have own' := kp.setRow ownN (u8s D)
        replace own := own'
        replace Q1 := Q1.set_ne (show w3.heap.size ≠ r53 by omega) (u8s D)
        replace Q2 := Q2.set_ne (show r33 ≠ r53 by omega) (u8s D)
        replace he : ShaEnv (s56.setRow r53 (u8s D)) := ⟨he.rounds.set_ne (by omega) _, he.start.set_ne (by omega) _⟩
        replace hb := hb.setRow_to (cs := u8s D) hbS
        replace HB : Below w.heap.size w (s56.setRow r53 (u8s D)) := below_setRow HB (by omega) _
        replace hbz : base ≤ (s56.setRow r53 (u8s D)).heap.size := by simpa [World.setRow] using hbz
        refine hKL _ _ trivial (fun _ => ?_)
        clear hst QZ hbS ownN own' kp
        generalize (s56.setRow r53 (u8s D)) = e58 at hm own he hb HB hbz Q3 Q1 Q2 ⊢
        go_wp2_with (refine wpLexS_nil ?_)
        clear hto1 hto2 hmid hfrom
        go_wp2_with fail
        refine (M4.out g base _ e58 hm own he).mono ?_
        rintro e t59 ⟨rfl, hm', own', hu⟩
        replace Q1 := Q1.upd hu (by omega)
        replace Q2 := Q2.upd hu (by omega)
        replace Q3 := Q3.upd hu (by omega)
        replace HB := hu.below HB (by omega) HB.size
        clear hu own own' hb he hm
        go_wp2_with fail
        refine (count_any g _ _ _ _ hm').mono ?_
        rintro e u9 ⟨rfl, rfl⟩
        have L1 := sload Q1 hDl
        have L2 := sload Q2 hDl
        have L3 := sload Q3 hDl
        clear hm' Q1 Q2 Q3
        go_wp2_with fail
        go_ret
        exact ⟨by simp, HB⟩
  · skip
    go_wp2_with fail
    have QZ : RowIs (d1.alloc (.cells (u8s (zeros 32)) 33)) d1.heap.size (u8s (zeros 32)) := RowIs.new _ _ _
    have hq : Below d1.heap.size d1 (d1.alloc (.cells (u8s (zeros 32)) 33)) := (by repeat (first | with_reducible exact Below.refl _ _ | with_reducible assumption | refine Below.drew ?_ | refine below_drewN ?_ | refine Below.alloc ?_ (by first | omega | (simp; done) | (simp; omega)) _ | refine below_setRow ?_ (by omega) _ | refine Below.setCell ?_ (by first | omega | (simp; done) | (simp; omega)) _))
    have hrz : base ≤ d1.heap.size := hbz
    have hr0 : d1.heap.size = d1.heap.size := rfl
    have ltQ1 := Q1.lt
    have hbv := hb
    have kp := Kept.of own (Nat.le_refl _)
    replace kp := kp.step hq
    replace hm := RowIs.step hm hq
    replace own := own.step hq
    replace he := he.step hq; replace hb := hb.step hq; replace Q1 := Q1.step hq
    replace HB := HB.trans (hq.mono HB.size)
    replace hbz := Nat.le_trans hbz hq.size
    clear hq hr0
    generalize (d1.alloc (.cells (u8s (zeros 32)) 33)) = a60 at QZ kp hm own he hb HB hbz Q1 ⊢
    obtain ⟨r61, hr_⟩ : ∃ k, k = d1.heap.size := ⟨_, rfl⟩
    rw [← hr_] at QZ kp hrz ltQ1 ⊢
    have hbS : ∃ B, B ≤ r61 ∧ ∃ w0 : World, B = w0.heap.size ∧ Bs w0 (.slice A n c) b := ⟨d1.heap.size, by omega, d1, rfl, hbv⟩
    have hq2 : g < r61 := by omega
    clear hr_ hbv
    refine hKL _ _ trivial (fun _ => ?_)
    (go_wp2_with (first | (refine wpLexD_skip rfl ?_) | (refine wpLexD_pure (by decide) rfl (fun _ _ => ?_); go_simp; refine ⟨_, fun w9 hw9 => (by trivial; go_simp; rfl), ?_⟩) | (refine wpLexD_pure0 (by decide) rfl (fun _ _ => ?_); go_simp; try go_bits) | (refine wpLexD_loud (by decide) rfl (fun KL hKL => ?_)) | (refine wpLexS_nil ?_) | (refine wpLexS_pure rfl (fun _ _ => ?_); go_simp; refine ⟨_, fun w9 hw9 => (by trivial; go_simp; rfl), ?_⟩) | (refine wpLexS_pure0 rfl (fun _ _ => ?_); go_simp; try go_bits) | (refine wpLexS_read rfl (fun _ _ => ?_); go_simp; try go_bits) | (refine wpLexS_loud rfl (fun KL hKL => ?_))))
    go_wp2_with fail
    have LL := BsL.lit3 (gg := a60.heap.size) 27 rfl (hb.take x (by omega)) ((hb.drop x (by omega)).take (y - x) (by omega)) (hb.drop y hyn)
    have hq : Below a60.heap.size a60 (a60.alloc (.cells #[.slice A x c, .slice (subA A c x) (y - x) (c - x), .slice (subA A c y) (n - y) (c - y)] 27)) := (by repeat (first | with_reducible exact Below.refl _ _ | with_reducible assumption | refine Below.drew ?_ | refine below_drewN ?_ | refine Below.alloc ?_ (by first | omega | (simp; done) | (simp; omega)) _ | refine below_setRow ?_ (by omega) _ | refine Below.setCell ?_ (by first | omega | (simp; done) | (simp; omega)) _))
    replace hm := RowIs.step hm hq
    replace own := own.step hq
    replace he := he.step hq; replace hb := hb.step hq; replace Q1 := Q1.step hq; replace QZ := QZ.step hq
    replace HB := HB.trans (hq.mono HB.size)
    replace hbz := Nat.le_trans hbz hq.size
    replace kp := kp.step hq
    clear hq
    generalize (a60.alloc (.cells #[.slice A x c, .slice (subA A c x) (y - x) (c - x), .slice (subA A c y) (n - y) (c - y)] 27)) = x62 at LL kp hm own he hb HB hbz Q1 QZ ⊢
    obtain ⟨l63, hl_⟩ : ∃ k, k = a60.heap.size := ⟨_, rfl⟩
    rw [← hl_] at LL ⊢
    clear hl_
    refine hKL _ _ trivial (fun _ => ?_)
    (go_wp2_with (first | (refine wpLexD_skip rfl ?_) | (refine wpLexD_pure (by decide) rfl (fun _ _ => ?_); go_simp; refine ⟨_, fun w9 hw9 => (by trivial; go_simp; rfl), ?_⟩) | (refine wpLexD_pure0 (by decide) rfl (fun _ _ => ?_); go_simp; try go_bits) | (refine wpLexD_loud (by decide) rfl (fun KL hKL => ?_)) | (refine wpLexS_nil ?_) | (refine wpLexS_pure rfl (fun _ _ => ?_); go_simp; refine ⟨_, fun w9 hw9 => (by trivial; go_simp; rfl), ?_⟩) | (refine wpLexS_pure0 rfl (fun _ _ => ?_); go_simp; try go_bits) | (refine wpLexS_read rfl (fun _ _ => ?_); go_simp; try go_bits) | (refine wpLexS_loud rfl (fun KL hKL => ?_))))
    go_wp2_with fail
    refine (M2.out g base _ _ _ hm own hbz LL he).mono ?_
    rintro e s64 ⟨rfl, ⟨v65, hm', own', kp'⟩, ks⟩
    replace kp := kp' r61 (RowIs.lt QZ) kp
    replace he := ks.env hm he
    replace hb := ks.bs _ _ hb
    replace Q1 := ks.row _ _ Q1 (by omega) (key_no hDl)
    replace QZ := ks.row _ _ QZ (by omega) (key_no (zeros_length 32))
    replace HB := HB.trans (ks.below _ hwb hwg)
    replace hbz := Nat.le_trans hbz ks.size
    replace hm := hm'; replace own := own'
    clear hm' own' kp' LL ks
    go_wp2_with fail
    refine hKL _ _ trivial (fun _ => ?_)
    have hst := sstore s64 r61 (u8s D) (by rw [QZ.has, u8s_size, zeros_length]) (by rw [u8s_size, hDl]) (u8s_one D)
    have ownN := own.ne_row QZ (key_no (zeros_length 32))
    (go_wp2_with (first | (refine wpLexD_skip rfl ?_) | (refine wpLexD_pure (by decide) rfl (fun _ _ => ?_); go_simp; refine ⟨_, fun w9 hw9 => (by trivial; go_simp; rfl), ?_⟩) | (refine wpLexD_pure0 (by decide) rfl (fun _ _ => ?_); go_simp; try go_bits) | (refine wpLexD_loud (by decide) rfl (fun KL hKL => ?_)) | (refine wpLexS_nil ?_) | (refine wpLexS_pure rfl (fun _ _ => ?_); go_simp; refine ⟨_, fun w9 hw9 => (by trivial; go_simp; rfl), ?_⟩) | (refine wpLexS_pure0 rfl (fun _ _ => ?_); go_simp; try go_bits) | (refine wpLexS_read rfl (fun _ _ => ?_); go_simp; try go_bits) | (refine wpLexS_loud rfl (fun KL hKL => ?_))))
    have Q2 := QZ.set (u8s D)
    replace hm := RowIs.set_ne hm (show g ≠ r61 by omega) (u8s D)
    have own' := kp.setRow ownN (u8s D)
    replace own := own'
    replace Q1 := Q1.set_ne (show w3.heap.size ≠ r61 by omega) (u8s D)
    replace he : ShaEnv (s64.setRow r61 (u8s D)) := ⟨he.rounds.set_ne (by omega) _, he.start.set_ne (by omega) _⟩
    replace hb := hb.setRow_to (cs := u8s D) hbS
    replace HB : Below w.heap.size w (s64.setRow r61 (u8s D)) := below_setRow HB (by omega) _
    replace hbz : base ≤ (s64.setRow r61 (u8s D)).heap.size := by simpa [World.setRow] using hbz
    refine hKL _ _ trivial (fun _ => ?_)
    clear hst QZ hbS ownN own' kp
    generalize (s64.setRow r61 (u8s D)) = e66 at hm own he hb HB hbz Q2 Q1 ⊢
    go_wp2_with (refine wpLexS_nil ?_)
    have hq : Below (e66).heap.size (e66) (e66).drew := (by repeat (first | with_reducible exact Below.refl _ _ | with_reducible assumption | refine Below.drew ?_ | refine below_drewN ?_ | refine Below.alloc ?_ (by first | omega | (simp; done) | (simp; omega)) _ | refine below_setRow ?_ (by omega) _ | refine Below.setCell ?_ (by first | omega | (simp; done) | (simp; omega)) _))
    replace hm := RowIs.step hm hq
    replace own := own.step hq
    replace he := he.step hq; replace hb := hb.step hq; replace Q1 := Q1.step hq; replace Q2 := Q2.step hq
    replace HB := HB.trans (hq.mono HB.size)
    replace hbz := Nat.le_trans hbz hq.size
    refine wp_region_lexF [] [] 9 _ (fun _ => True) rfl (by kernel_rfl) (by decide +kernel) trivial (fun _ => ?_)
    clear hq
    generalize (e66).drew = d67 at hm own he hb HB hbz Q1 Q2 ⊢
    (go_wp2_with (first | (refine wpLexF_here rfl ?_) | (refine wpLexF_pure (by decide) rfl (fun _ _ => ?_); go_simp; refine ⟨_, fun w9 hw9 => (by trivial; go_simp; rfl), ?_⟩) | (refine wpLexF_pure0 (by decide) rfl (fun _ _ => ?_); go_simp; try go_bits)))
    refine wpLexF_loud (by decide) rfl (fun KL hKL => ?_) (fun KL hKL => ?_)
    · skip
      go_wp2_with fail
      have LL := BsL.lit3 (gg := d67.heap.size) 27 rfl (hb.take y hyn) (Bs.nil _) (hb.drop y hyn)
      have hq : Below d67.heap.size d67 (d67.alloc (.cells #[.slice A y c, .slice none 0 0, .slice (subA A c y) (n - y) (c - y)] 27)) := (by repeat (first | with_reducible exact Below.refl _ _ | with_reducible assumption | refine Below.drew ?_ | refine below_drewN ?_ | refine Below.alloc ?_ (by first | omega | (simp; done) | (simp; omega)) _ | refine below_setRow ?_ (by omega) _ | refine Below.setCell ?_ (by first | omega | (simp; done) | (simp; omega)) _))
      replace hm := RowIs.step hm hq
      replace own := own.step hq
      replace he := he.step hq; replace hb := hb.step hq; replace Q1 := Q1.step hq; replace Q2 := Q2.step hq
      replace HB := HB.trans (hq.mono HB.size)
      replace hbz := Nat.le_trans hbz hq.size
      clear hq
      generalize (d67.alloc (.cells #[.slice A y c, .slice none 0 0, .slice (subA A c y) (n - y) (c - y)] 27)) = x68 at LL hm own he hb HB hbz Q1 Q2 ⊢
      obtain ⟨l69, hl_⟩ : ∃ k, k = d67.heap.size := ⟨_, rfl⟩
      rw [← hl_] at LL ⊢
      clear hl_
      refine hKL _ _ trivial (fun _ => ?_)
      (go_wp2_with (first | (refine wpLexF_here rfl ?_) | (refine wpLexF_pure (by decide) rfl (fun _ _ => ?_); go_simp; refine ⟨_, fun w9 hw9 => (by trivial; go_simp; rfl), ?_⟩) | (refine wpLexF_pure0 (by decide) rfl (fun _ _ => ?_); go_simp; try go_bits)))
      refine wpLexF_loud (by decide) rfl (fun KL hKL => ?_) (fun KL hKL => ?_)
      · skip
        go_wp2_with fail
        refine (M3.out g base _ _ _ hm own hbz LL he).mono ?_
        rintro e s70 ⟨rfl, ⟨v71, hm', own', kp'⟩, ks⟩
        replace he := ks.env hm he
        replace hb := ks.bs _ _ hb
        replace Q1 := ks.row _ _ Q1 (by omega) (key_no hDl)
        replace Q2 := ks.row _ _ Q2 (by omega) (key_no hDl)
        replace HB := HB.trans (ks.below _ hwb hwg)
        replace hbz := Nat.le_trans hbz ks.size
        replace hm := hm'; replace own := own'
        clear hm' own' kp' LL ks
        go_wp2_with fail
        refine hKL _ _ trivial (fun _ => ?_)
        (go_wp2_with (first | (refine wpLexF_here rfl ?_) | (refine wpLexF_pure (by decide) rfl (fun _ _ => ?_); go_simp; refine ⟨_, fun w9 hw9 => (by trivial; go_simp; rfl), ?_⟩) | (refine wpLexF_pure0 (by decide) rfl (fun _ _ => ?_); go_simp; try go_bits)))
        (go_wp2_with (first | (refine wpLexD_skip rfl ?_) | (refine wpLexD_pure (by decide) rfl (fun _ _ => ?_); go_simp; refine ⟨_, fun w9 hw9 => (by trivial; go_simp; rfl), ?_⟩) | (refine wpLexD_pure0 (by decide) rfl (fun _ _ => ?_); go_simp; try go_bits) | (refine wpLexD_loud (by decide) rfl (fun KL hKL => ?_)) | (refine wpLexS_nil ?_) | (refine wpLexS_pure rfl (fun _ _ => ?_); go_simp; refine ⟨_, fun w9 hw9 => (by trivial; go_simp; rfl), ?_⟩) | (refine wpLexS_pure0 rfl (fun _ _ => ?_); go_simp; try go_bits) | (refine wpLexS_read rfl (fun _ _ => ?_); go_simp; try go_bits) | (refine wpLexS_loud rfl (fun KL hKL => ?_))))
        have QZ : RowIs (s70.alloc (.cells (u8s (zeros 32)) 33)) s70.heap.size (u8s (zeros 32)) := RowIs.new _ _ _
        have hq : Below s70.heap.size s70 (s70.alloc (.cells (u8s (zeros 32)) 33)) := (by repeat (first | with_reducible exact Below.refl _ _ | with_reducible assumption | refine Below.drew ?_ | refine below_drewN ?_ | refine Below.alloc ?_ (by first | omega | (simp; done) | (simp; omega)) _ | refine below_setRow ?_ (by omega) _ | refine Below.setCell ?_ (by first | omega | (simp; done) | (simp; omega)) _))
        have hrz : base ≤ s70.heap.size := hbz
        have hr0 : s70.heap.size = s70.heap.size := rfl
        have ltQ1 := Q1.lt
        have ltQ2 := Q2.lt
        have hbv := hb
        have kp := Kept.of own (Nat.le_refl _)
        replace kp := kp.step hq
        replace hm := RowIs.step hm hq
        replace own := own.step hq
        replace he := he.step hq; replace hb := hb.step hq; replace Q1 := Q1.step hq; replace Q2 := Q2.step hq
        replace HB := HB.trans (hq.mono HB.size)
        replace hbz := Nat.le_trans hbz hq.size
        clear hq hr0
        generalize (s70.alloc (.cells (u8s (zeros 32)) 33)) = a72 at QZ kp hm own he hb HB hbz Q1 Q2 ⊢
        obtain ⟨r73, hr_⟩ : ∃ k, k = s70.heap.size := ⟨_, rfl⟩
        rw [← hr_] at QZ kp hrz ltQ1 ltQ2 ⊢
        have hbS : ∃ B, B ≤ r73 ∧ ∃ w0 : World, B = w0.heap.size ∧ Bs w0 (.slice A n c) b := ⟨s70.heap.size, by omega, s70, rfl, hbv⟩
        have hq3 : g < r73 := by omega
        clear hr_ hbv
        refine hKL _ _ trivial (fun _ => ?_)
        have hst := sstore a72 r73 (u8s D) (by rw [QZ.has, u8s_size, zeros_length]) (by rw [u8s_size, hDl]) (u8s_one D)
        have ownN := own.ne_row QZ (key_no (zeros_length 32))
        (go_wp2_with (first | (refine wpLexD_skip rfl ?_) | (refine wpLexD_pure (by decide) rfl (fun _ _ => ?_); go_simp; refine ⟨_, fun w9 hw9 => (by trivial; go_simp; rfl), ?_⟩) | (refine wpLexD_pure0 (by decide) rfl (fun _ _ => ?_); go_simp; try go_bits) | (refine wpLexD_loud (by decide) rfl (fun KL hKL => ?_)) | (refine wpLexS_nil ?_) | (refine wpLexS_pure rfl (fun _ _ => ?_); go_simp; refine ⟨_, fun w9 hw9 => (by trivial; go_simp; rfl), ?_⟩) | (refine wpLexS_pure0 rfl (fun _ _ => ?_); go_simp; try go_bits) | (refine wpLexS_read rfl (fun _ _ => ?_); go_simp; try go_bits) | (refine wpLexS_loud rfl (fun KL hKL => ?_))))
        have Q3 := QZ.set (u8s D)
        replace hm := RowIs.set_ne hm (show g ≠ r73 by omega) (u8s D)
        have own' := kp.setRow ownN (u8s D)
        replace own := own'
        replace Q1 := Q1.set_ne (show w3.heap.size ≠ r73 by omega) (u8s D)
        replace Q2 := Q2.set_ne (show r61 ≠ r73 by omega) (u8s D)
        replace he : ShaEnv (a72.setRow r73 (u8s D)) := ⟨he.rounds.set_ne (by omega) _, he.start.set_ne (by omega) _⟩
        replace hb := hb.setRow_to (cs := u8s D) hbS
        replace HB : Below w.heap.size w (a72.setRow r73 (u8s D)) := below_setRow HB (by omega) _
        replace hbz : base ≤ (a72.setRow r73 (u8s D)).heap.size := by simpa [World.setRow] using hbz
        refine hKL _ _ trivial (fun _ => ?_)
        clear hst QZ hbS ownN own' kp
        generalize (a72.setRow r73 (u8s D)) = e74 at hm own he hb HB hbz Q3 Q1 Q2 ⊢
        go_wp2_with (refine wpLexS_nil ?_)
        clear hto1 hto2 hmid hfrom
        go_wp2_with fail
        refine (M4.out g base _ e74 hm own he).mono ?_
        rintro e t75 ⟨rfl, hm', own', hu⟩
        replace Q1 := Q1.upd hu (by omega)
        replace Q2 := Q2.upd hu (by omega)
        replace Q3 := Q3.upd hu (by omega)
        replace HB := hu.below HB (by omega) HB.size
        clear hu own own' hb he hm
        go_wp2_with fail
        refine (count_any g _ _ _ _ hm').mono ?_
        rintro e u9 ⟨rfl, rfl⟩
        have L1 := sload Q1 hDl
        have L2 := sload Q2 hDl
        have L3 := sload Q3 hDl
        clear hm' Q1 Q2 Q3
        go_wp2_with fail
        go_ret
        exact ⟨by simp, HB⟩
      · skip
        go_wp2_with fail
        have QZ : RowIs (x68.alloc (.cells (u8s (zeros 32)) 33)) x68.heap.size (u8s (zeros 32)) := RowIs.new _ _ _
        have hq : Below x68.heap.size x68 (x68.alloc (.cells (u8s (zeros 32)) 33)) := (by repeat (first | with_reducible exact Below.refl _ _ | with_reducible assumption | refine Below.drew ?_ | refine below_drewN ?_ | refine Below.alloc ?_ (by first | omega | (simp; done) | (simp; omega)) _ | refine below_setRow ?_ (by omega) _ | refine Below.setCell ?_ (by first | omega | (simp; done) | (simp; omega)) _))
        have hrz : base ≤ x68.heap.size := hbz
        have hr0 : x68.heap.size = x68.heap.size := rfl
        have ltQ1 := Q1.lt
        have ltQ2 := Q2.lt
        have hbv := hb
        have kp := Kept.of own (Nat.le_refl _)
        replace kp := kp.step hq
        replace hm := RowIs.step hm hq
        replace own := own.step hq
        replace he := he.step hq; replace hb := hb.step hq; replace Q1 := Q1.step hq; replace Q2 := Q2.step hq; replace LL := LL.step hq
        replace HB := HB.trans (hq.mono HB.size)
        replace hbz := Nat.le_trans hbz hq.size
        clear hq hr0
        generalize (x68.alloc (.cells (u8s (zeros 32)) 33)) = a76 at QZ kp hm own he hb HB hbz Q1 Q2 LL ⊢
        obtain ⟨r77, hr_⟩ : ∃ k, k = x68.heap.size := ⟨_, rfl⟩
        rw [← hr_] at QZ kp hrz ltQ1 ltQ2 ⊢
        have hbS : ∃ B, B ≤ r77 ∧ ∃ w0 : World, B = w0.heap.size ∧ Bs w0 (.slice A n c) b := ⟨x68.heap.size, by omega, x68, rfl, hbv⟩
        have hq3 : g < r77 := by omega
        clear hr_ hbv
        refine hKL _ _ trivial (fun _ => ?_)
        (go_wp2_with (first | (refine wpLexD_skip rfl ?_) | (refine wpLexD_pure (by decide) rfl (fun _ _ => ?_); go_simp; refine ⟨_, fun w9 hw9 => (by trivial; go_simp; rfl), ?_⟩) | (refine wpLexD_pure0 (by decide) rfl (fun _ _ => ?_); go_simp; try go_bits) | (refine wpLexD_loud (by decide) rfl (fun KL hKL => ?_)) | (refine wpLexS_nil ?_) | (refine wpLexS_pure rfl (fun _ _ => ?_); go_simp; refine ⟨_, fun w9 hw9 => (by trivial; go_simp; rfl), ?_⟩) | (refine wpLexS_pure0 rfl (fun _ _ => ?_); go_simp; try go_bits) | (refine wpLexS_read rfl (fun _ _ => ?_); go_simp; try go_bits) | (refine wpLexS_loud rfl (fun KL hKL => ?_))))
        go_wp2_with fail
        refine (M3.out g base _ _ _ hm own hbz LL he).mono ?_
        rintro e s78 ⟨rfl, ⟨v79, hm', own', kp'⟩, ks⟩
        replace kp := kp' r77 (RowIs.lt QZ) kp
        replace he := ks.env hm he
        replace hb := ks.bs _ _ hb
        replace Q1 := ks.row _ _ Q1 (by omega) (key_no hDl)
        replace Q2 := ks.row _ _ Q2 (by omega) (key_no hDl)
        replace QZ := ks.row _ _ QZ (by omega) (key_no (zeros_length 32))
        replace HB := HB.trans (ks.below _ hwb hwg)
        replace hbz := Nat.le_trans hbz ks.size
        replace hm := hm'; replace own := own'
        clear hm' own' kp' LL ks
        go_wp2_with fail
        refine hKL _ _ trivial (fun _ => ?_)
        have hst := sstore s78 r77 (u8s D) (by rw [QZ.has, u8s_size, zeros_length]) (by rw [u8s_size, hDl]) (u8s_one D)
        have ownN := own.ne_row QZ (key_no (zeros_length 32))
        (go_wp2_with (first | (refine wpLexD_skip rfl ?_) | (refine wpLexD_pure (by decide) rfl (fun _ _ => ?_); go_simp; refine ⟨_, fun w9 hw9 => (by trivial; go_simp; rfl), ?_⟩) | (refine wpLexD_pure0 (by decide) rfl (fun _ _ => ?_); go_simp; try go_bits) | (refine wpLexD_loud (by decide) rfl (fun KL hKL => ?_)) | (refine wpLexS_nil ?_) | (refine wpLexS_pure rfl (fun _ _ => ?_); go_simp; refine ⟨_, fun w9 hw9 => (by trivial; go_simp; rfl), ?_⟩) | (refine wpLexS_pure0 rfl (fun _ _ => ?_); go_simp; try go_bits) | (refine wpLexS_read rfl (fun _ _ => ?_); go_simp; try go_bits) | (refine wpLexS_loud rfl (fun KL hKL => ?_))))
        have Q3 := QZ.set (u8s D)
        replace hm := RowIs.set_ne hm (show g ≠ r77 by omega) (u8s D)
        have own' := kp.setRow ownN (u8s D)
        replace own := own'
        replace Q1 := Q1.set_ne (show w3.heap.size ≠ r77 by omega) (u8s D)
        replace Q2 := Q2.set_ne (show r61 ≠ r77 by omega) (u8s D)
        replace he : ShaEnv (s78.setRow r77 (u8s D)) := ⟨he.rounds.set_ne (by omega) _, he.start.set_ne (by omega) _⟩
        replace hb := hb.setRow_to (cs := u8s D) hbS
        replace HB : Below w.heap.size w (s78.setRow r77 (u8s D)) := below_setRow HB (by omega) _
        replace hbz : base ≤ (s78.setRow r77 (u8s D)).heap.size := by simpa [World.setRow] using hbz
        refine hKL _ _ trivial (fun _ => ?_)
        clear hst QZ hbS ownN own' kp
        generalize (s78.setRow r77 (u8s D)) = e80 at hm own he hb HB hbz Q3 Q1 Q2 ⊢
        go_wp2_with (refine wpLexS_nil ?_)
        clear hto1 hto2 hmid hfrom
        go_wp2_with fail
        refine (M4.out g base _ e80 hm own he).mono ?_
        rintro e t81 ⟨rfl, hm', own', hu⟩
        replace Q1 := Q1.upd hu (by omega)
        replace Q2 := Q2.upd hu (by omega)
        replace Q3 := Q3.upd hu (by omega)
        replace HB := hu.below HB (by omega) HB.size
        clear hu own own' hb he hm
        go_wp2_with fail
        refine (count_any g _ _ _ _ hm').mono ?_
        rintro e u9 ⟨rfl, rfl⟩
        have L1 := sload Q1 hDl
        have L2 := sload Q2 hDl
        have L3 := sload Q3 hDl
        clear hm' Q1 Q2 Q3
        go_wp2_with fail
        go_ret
        exact ⟨by simp, HB⟩
    · skip
      go_wp2_with fail
      have QZ : RowIs (d67.alloc (.cells (u8s (zeros 32)) 33)) d67.heap.size (u8s (zeros 32)) := RowIs.new _ _ _
      have hq : Below d67.heap.size d67 (d67.alloc (.cells (u8s (zeros 32)) 33)) := (by repeat (first | with_reducible exact Below.refl _ _ | with_reducible assumption | refine Below.drew ?_ | refine below_drewN ?_ | refine Below.alloc ?_ (by first | omega | (simp; done) | (simp; omega)) _ | refine below_setRow ?_ (by omega) _ | refine Below.setCell ?_ (by first | omega | (simp; done) | (simp; omega)) _))
      have hrz : base ≤ d67.heap.size := hbz
      have hr0 : d67.heap.size = d67.heap.size := rfl
      have ltQ1 := Q1.lt
      have ltQ2 := Q2.lt
      have hbv := hb
      have kp := Kept.of own (Nat.le_refl _)
      replace kp := kp.step hq
      replace hm := RowIs.step hm hq
      replace own := own.step hq
      replace he := he.step hq; replace hb := hb.step hq; replace Q1 := Q1.step hq; replace Q2 := Q2.step hq
      replace HB := HB.trans (hq.mono HB.size)
      replace hbz := Nat.le_trans hbz hq.size
      clear hq hr0
      generalize (d67.alloc (.cells (u8s (zeros 32)) 33)) = a82 at QZ kp hm own he hb HB hbz Q1 Q2 ⊢
      obtain ⟨r83, hr_⟩ : ∃ k, k = d67.heap.size := ⟨_, rfl⟩
      rw [← hr_] at QZ kp hrz ltQ1 ltQ2 ⊢
      have hbS : ∃ B, B ≤ r83 ∧ ∃ w0 : World, B = w0.heap.size ∧ Bs w0 (.slice A n c) b := ⟨d67.heap.size, by omega, d67, rfl, hbv⟩
      have hq3 : g < r83 := by omega
      clear hr_ hbv
      refine hKL _ _ trivial (fun _ => ?_)
      (go_wp2_with (first | (refine wpLexD_skip rfl ?_) | (refine wpLexD_pure (by decide) rfl (fun _ _ => ?_); go_simp; refine ⟨_, fun w9 hw9 => (by trivial; go_simp; rfl), ?_⟩) | (refine wpLexD_pure0 (by decide) rfl (fun _ _ => ?_); go_simp; try go_bits) | (refine wpLexD_loud (by decide) rfl (fun KL hKL => ?_)) | (refine wpLexS_nil ?_) | (refine wpLexS_pure rfl (fun _ _ => ?_); go_simp; refine ⟨_, fun w9 hw9 => (by trivial; go_simp; rfl), ?_⟩) | (refine wpLexS_pure0 rfl (fun _ _ => ?_); go_simp; try go_bits) | (refine wpLexS_read rfl (fun _ _ => ?_); go_simp; try go_bits) | (refine wpLexS_loud rfl (fun KL hKL => ?_))))
      go_wp2_with fail
      have LL := BsL.lit3 (gg := a82.heap.size) 27 rfl (hb.take y hyn) (Bs.nil _) (hb.drop y hyn)
      have hq : Below a82.heap.size a82 (a82.alloc (.cells #[.slice A y c, .slice none 0 0, .slice (subA A c y) (n - y) (c - y)] 27)) := (by repeat (first | with_reducible exact Below.refl _ _ | with_reducible assumption | refine Below.drew ?_ | refine below_drewN ?_ | refine Below.alloc ?_ (by first | omega | (simp; done) | (simp; omega)) _ | refine below_setRow ?_ (by omega) _ | refine Below.setCell ?_ (by first | omega | (simp; done) | (simp; omega)) _))
      replace hm := RowIs.step hm hq
      replace own := own.step hq
      replace he := he.step hq; replace hb := hb.step hq; replace Q1 := Q1.step hq; replace Q2 := Q2.step hq; replace QZ := QZ.step hq
      replace HB := HB.trans (hq.mono HB.size)
      replace hbz := Nat.le_trans hbz hq.size
      replace kp := kp.step hq
      clear hq
      generalize (a82.alloc (.cells #[.slice A y c, .slice none 0 0, .slice (subA A c y) (n - y) (c - y)] 27)) = x84 at LL kp hm own he hb HB hbz Q1 Q2 QZ ⊢
      obtain ⟨l85, hl_⟩ : ∃ k, k = a82.heap.size := ⟨_, rfl⟩
      rw [← hl_] at LL ⊢
      clear hl_
      refine hKL _ _ trivial (fun _ => ?_)
      (go_wp2_with (first | (refine wpLexD_skip rfl ?_) | (refine wpLexD_pure (by decide) rfl (fun _ _ => ?_); go_simp; refine ⟨_, fun w9 hw9 => (by trivial; go_simp; rfl), ?_⟩) | (refine wpLexD_pure0 (by decide) rfl (fun _ _ => ?_); go_simp; try go_bits) | (refine wpLexD_loud (by decide) rfl (fun KL hKL => ?_)) | (refine wpLexS_nil ?_) | (refine wpLexS_pure rfl (fun _ _ => ?_); go_simp; refine ⟨_, fun w9 hw9 => (by trivial; go_simp; rfl), ?_⟩) | (refine wpLexS_pure0 rfl (fun _ _ => ?_); go_simp; try go_bits) | (refine wpLexS_read rfl (fun _ _ => ?_); go_simp; try go_bits) | (refine wpLexS_loud rfl (fun KL hKL => ?_))))
      go_wp2_with fail
      refine (M3.out g base _ _ _ hm own hbz LL he).mono ?_
      rintro e s86 ⟨rfl, ⟨v87, hm', own', kp'⟩, ks⟩
      replace kp := kp' r83 (RowIs.lt QZ) kp
      replace he := ks.env hm he
      replace hb := ks.bs _ _ hb
      replace Q1 := ks.row _ _ Q1 (by omega) (key_no hDl)
      replace Q2 := ks.row _ _ Q2 (by omega) (key_no hDl)
      replace QZ := ks.row _ _ QZ (by omega) (key_no (zeros_length 32))
      replace HB := HB.trans (ks.below _ hwb hwg)
      replace hbz := Nat.le_trans hbz ks.size
      replace hm := hm'; replace own := own'
      clear hm' own' kp' LL ks
      go_wp2_with fail
      refine hKL _ _ trivial (fun _ => ?_)
      have hst := sstore s86 r83 (u8s D) (by rw [QZ.has, u8s_size, zeros_length]) (by rw [u8s_size, hDl]) (u8s_one D)
      have ownN := own.ne_row QZ (key_no (zeros_length 32))
      (go_wp2_with (first | (refine wpLexD_skip rfl ?_) | (refine wpLexD_pure (by decide) rfl (fun _ _ => ?_); go_simp; refine ⟨_, fun w9 hw9 => (by trivial; go_simp; rfl), ?_⟩) | (refine wpLexD_pure0 (by decide) rfl (fun _ _ => ?_); go_simp; try go_bits) | (refine wpLexD_loud (by decide) rfl (fun KL hKL => ?_)) | (refine wpLexS_nil ?_) | (refine wpLexS_pure rfl (fun _ _ => ?_); go_simp; refine ⟨_, fun w9 hw9 => (by trivial; go_simp; rfl), ?_⟩) | (refine wpLexS_pure0 rfl (fun _ _ => ?_); go_simp; try go_bits) | (refine wpLexS_read rfl (fun _ _ => ?_); go_simp; try go_bits) | (refine wpLexS_loud rfl (fun KL hKL => ?_))))
      have Q3 := QZ.set (u8s D)
      replace hm := RowIs.set_ne hm (show g ≠ r83 by omega) (u8s D)
      have own' := kp.setRow ownN (u8s D)
      replace own := own'
      replace Q1 := Q1.set_ne (show w3.heap.size ≠ r83 by omega) (u8s D)
      replace Q2 := Q2.set_ne (show r61 ≠ r83 by omega) (u8s D)
      replace he : ShaEnv (s86.setRow r83 (u8s D)) := ⟨he.rounds.set_ne (by omega) _, he.start.set_ne (by omega) _⟩
      replace hb := hb.setRow_to (cs := u8s D) hbS
      replace HB : Below w.heap.size w (s86.setRow r83 (u8s D)) := below_setRow HB (by omega) _
      replace hbz : base ≤ (s86.setRow r83 (u8s D)).heap.size := by simpa [World.setRow] using hbz
      refine hKL _ _ trivial (fun _ => ?_)
      clear hst QZ hbS ownN own' kp
      generalize (s86.setRow r83 (u8s D)) = e88 at hm own he hb HB hbz Q3 Q1 Q2 ⊢
      go_wp2_with (refine wpLexS_nil ?_)
      clear hto1 hto2 hmid hfrom
      go_wp2_with fail
      refine (M4.out g base _ e88 hm own he).mono ?_
      rintro e t89 ⟨rfl, hm', own', hu⟩
      replace Q1 := Q1.upd hu (by omega)
      replace Q2 := Q2.upd hu (by omega)
      replace Q3 := Q3.upd hu (by omega)
      replace HB := hu.below HB (by omega) HB.size
      clear hu own own' hb he hm
      go_wp2_with fail
      refine (count_any g _ _ _ _ hm').mono ?_
      rintro e u9 ⟨rfl, rfl⟩
      have L1 := sload Q1 hDl
      have L2 := sload Q2 hDl
      have L3 := sload Q3 hDl
      clear hm' Q1 Q2 Q3
      go_wp2_with fail
      go_ret
      exact ⟨by simp, HB⟩
end Go.Proofs.YtopmdbmnlflpgaaDoor
