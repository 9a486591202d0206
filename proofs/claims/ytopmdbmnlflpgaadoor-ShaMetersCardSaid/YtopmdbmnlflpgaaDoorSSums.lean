/- ShaSums: a meter that keeps, and none; the walk of the statement's function. -/
import Derived.Test.YtopmdbmnlflpgaaDoorAw2
import Derived.Test.YtopmdbmnlflpgaaDoorRefDig
import Derived.Test.YtopmdbmnlflpgaaDoorLock
import Derived.WalkKit
namespace Go.Proofs.YtopmdbmnlflpgaaDoor
open Go.RowKit Go.MuLone
theorem bytesInfo : (Tryd.prog.info? 27).map (fun i => (i.zero, i.size, i.bytes)) = some (some (.slice none 0 0), 1, 24) := by kernel_rfl
/-- one slice of bytes appended to nothing -/
theorem wpList_append_first {w : World} {ops : Array Oper} {rest : List Oper} {o : Oper} {a : Act} {Q : Exit → Act → World → Prop} (hgd : o.guard = none) (s x : Operand)
    (ho : o.op = .call { callee := .builtin .append, args := #[s, x], argTypes := #[42, 42] })
    (b : Nat) (v : Value) (hv : v.oneCell' = true) (hs : a.eval s = .slice none 0 0) (hx : a.eval x = .slice (some ⟨b, 0, none⟩) 1 1) (hc : w.cell? ⟨b, 0, none⟩ = some v)
    (h : ∀ A' c' w', Below w.heap.size w w' → wpList Tryd.prog ops Q rest (a.put o.dst (.slice A' 1 c')) w') : wpList Tryd.prog ops Q (o :: rest) a w := by
  obtain ⟨i, hi, hh⟩ := Option.map_eq_some_iff.1 bytesInfo
  simp only [Prod.mk.injEq] at hh
  refine wpList_plain hgd fun C hC => ?_
  obtain ⟨v', w', hrun, h2, h3, _⟩ := run_append_own (P := Tryd.prog) w w.heap.size 42 o.type 27 i (.slice none 0 0) 1 24 Tryd.underlying42 hi hh.1 hh.2.1 hh.2.2 rfl (by omega) (.slice none 0 0) 0 [] (World.ownsRow_nil w _ _ 1) ⟨b, 0, none⟩ 1 1 [v] rfl
    (fun j u hu => by
      have hj : j = 0 := by have := (List.getElem?_eq_some_iff.1 hu).1; simpa using this
      subst hj
      have hu' : v = u := by simpa using hu
      rw [← hu']; exact hc)
    (by simpa using hv) (by simp only [maxLen]; omega) (by omega) (Nat.le_refl _)
  have hb : Below w.heap.size w w' := (Below.refl _ _).grown h3 (Nat.le_refl _) (fun k hk => by simp [Value.ownBlock] at hk)
  obtain ⟨A', c', rfl⟩ : ∃ A' c', v' = .slice A' 1 c' := by
    rcases h2.2 with ⟨_, hn⟩ | ⟨g, cap, cur, hv', _⟩
    · omega
    · exact ⟨_, _, hv'⟩
  unfold Oper.wp execOp
  simp only [ho, resolve, invoke, builtin, Sem.run_bind, Sem.run_pure, Result.andThen_ok, List.map_toArray, List.map_cons, List.map_nil, hs, hx, hrun]
  exact hC _ _ (h A' c' w' hb)
/-- a meter that keeps, its lock's state, what it kept -/
def MetK (w : World) (g : Nat) (n s : Int) (all : Value) : Prop := RowIs w g #[.int .i64 n, .bool true, .int .i32 s, .int .u32 0, all]
theorem MetK.c4 {w : World} {g : Nat} {n s : Int} {all : Value} (h : MetK w g n s all) : w.cell? ⟨g, 4, none⟩ = some all := by
  obtain ⟨t, ht⟩ := RowIs.row h |>.heap
  rw [RowIs.has h] at ht
  rw [cell_of_row _ _ _ _ t (0, 0) ht]; rfl
theorem MetK.c2 {w : World} {g : Nat} {n s : Int} {all : Value} (h : MetK w g n s all) : w.cell? ⟨g, 2, none⟩ = some (.int .i32 s) := by
  obtain ⟨t, ht⟩ := RowIs.row h |>.heap
  rw [RowIs.has h] at ht
  rw [cell_of_row _ _ _ _ t (0, 0) ht]; rfl
theorem MetK.no8 {w : World} {g : Nat} {n s : Int} {all : Value} (h : MetK w g n s all) (hall : ∀ b, all ≠ .int .u8 b) : No8 w g := by
  refine no8_row h ?_
  cases all <;> simp_all
theorem MetK.env {w w' : World} {g : Nat} {n s : Int} {all : Value} (hm : MetK w g n s all) (h : ShaEnv w) (hu : Upd g w w') : ShaEnv w' := by
  have hne : ∀ (k : Nat) (l : List UInt32), 0 < l.length → RowIs w k (u32s l) → k ≠ g := by
    rintro k l hl hk rfl
    have h1 := hk.c32 0 hl
    obtain ⟨t, ht⟩ := RowIs.row hm |>.heap
    rw [RowIs.has hm] at ht
    rw [cell_of_row _ _ _ _ t (0, 0) ht] at h1
    cases h1
  exact ⟨h.rounds.upd hu (hne _ _ (by rw [roundsL_length]; omega) h.rounds), h.start.upd hu (hne _ _ (by rw [startS_length]; omega) h.start)⟩
def DigRes (g : Nat) (l : List UInt8) (w : World) (e : Ending) (w' : World) : Prop := e = .returned (.agg (u8s (shaB l))) ∧ Upd g w w'
set_option maxRecDepth 100000 in
theorem meterNil_any (vl : Value) (ls : List (List UInt8)) (w : World) (hr : BsL w vl ls) (hl : ls.flatten.length ≤ 17592186044416) (he : ShaEnv w) :
    Calls Tryd.prog 26 #[.pointer none, vl] w fun e w' => e = .returned (.agg (u8s (shaB ls.flatten))) ∧ Below w.heap.size w w' := by
  obtain ⟨F, hF⟩ : ∃ F, F = ls.flatten := ⟨_, rfl⟩
  have hj := fun w h => join_bs vl ls (by omega) w h
  rw [← hF] at hj hl ⊢
  have HJ := Lib.hid hj
  clear hF hj
  go_enter Tryd.func26, Tryd.ntmps26
  go_wp2_with fail
  have HB : Below w.heap.size w (w.alloc (.cells (u8s (zeros 32)) 33)) := (by repeat (first | with_reducible exact Below.refl _ _ | with_reducible assumption | refine Below.drew ?_ | refine below_drewN ?_ | refine Below.alloc ?_ (by first | omega | (simp; done) | (simp; omega)) _ | refine below_setRow ?_ (by omega) _ | refine Below.setCell ?_ (by first | omega | (simp; done) | (simp; omega)) _))
  refine (HJ.out _ (hr.step HB)).mono ?_
  rintro e w1 ⟨v1, rfl, hv1, hb1⟩
  have R0 : RowIs w1 w.heap.size (u8s (zeros 32)) := (RowIs.new _ _ _).step hb1
  replace HB := HB.trans (hb1.mono HB.size)
  replace he := he.step HB
  clear hb1
  go_wp2_with fail
  refine (sum_any v1 F w1 hv1 hl he.rounds he.start).mono ?_
  rintro e w3 ⟨rfl, hb3⟩
  replace R0 := R0.step hb3
  have R0h := R0.has; have R0r := R0.row; have R0l := R0.lt
  have hkl := shaB_length F
  obtain ⟨D, hD⟩ : ∃ D, D = shaB F := ⟨_, rfl⟩
  have HD := Lib.hid hD
  rw [← hD] at hkl ⊢
  clear hD
  have hs3 := HB.size
  go_wp2_with fail
  refine bodyPost_retRow 4 _ w.heap.size 32 rfl rfl (by omega) (by kernel_rfl) (by kernel_rfl) ?_ rfl ?_
  · go_simp
  · go_simp
    exact ⟨by rw [HD.out], below_setRow (HB.trans (hb3.mono hs3)) (Nat.le_refl _) _⟩
set_option maxRecDepth 100000 in
set_option maxHeartbeats 1600000 in
theorem meterKeep_any (g : Nat) (n : Int) (vl : Value) (ls : List (List UInt8)) (w : World) (hm : Met w g n true (.slice none 0 0)) (hr : BsL w vl ls) (hl : ls.flatten.length ≤ 17592186044416)
    (he : ShaEnv w) (h1 : -4611686018427387904 ≤ n) (h2 : n ≤ 4611686018427387904) :
    Calls Tryd.prog 26 #[.pointer (some ⟨g, 0, none⟩), vl] w (DigRes g ls.flatten w) := by
  obtain ⟨F, hF⟩ : ∃ F, F = ls.flatten := ⟨_, rfl⟩
  have hj := fun w h => join_bs vl ls (by omega) w h
  rw [← hF] at hj hl ⊢
  have HJ := Lib.hid hj
  clear hF hj
  have hgl := hm.lt
  go_enter_defers Tryd.func26, Tryd.ntmps26
  go_wp2_with fail
  have HB : Below w.heap.size w (w.alloc (.cells (u8s (zeros 32)) 33)) := (by repeat (first | with_reducible exact Below.refl _ _ | with_reducible assumption | refine Below.drew ?_ | refine below_drewN ?_ | refine Below.alloc ?_ (by first | omega | (simp; done) | (simp; omega)) _ | refine below_setRow ?_ (by omega) _ | refine Below.setCell ?_ (by first | omega | (simp; done) | (simp; omega)) _))
  refine (HJ.out _ (hr.step HB)).mono ?_
  rintro e w1 ⟨v1, rfl, hv1, hb1⟩
  have R0 : RowIs w1 w.heap.size (u8s (zeros 32)) := (RowIs.new _ _ _).step hb1
  replace HB := HB.trans (hb1.mono HB.size)
  replace hm := hm.step HB
  replace he := he.step HB
  clear hb1
  go_wp2_with fail
  refine (add_any g n 1 h1 h2 (by omega) (by omega) w1 hm.c0 (RowIs.fz hm 0)).mono ?_
  rintro e w2' ⟨rfl, rfl⟩
  have hu : Upd g w1 (w1.setCell ⟨g, 0, none⟩ (.int .i64 (n + 1))) := (Upd.refl g w1).put 0 _
  obtain ⟨w2, hw2⟩ : ∃ w2, w2 = w1.setCell ⟨g, 0, none⟩ (.int .i64 (n + 1)) := ⟨_, rfl⟩
  have hv2 := hv1.upd hu (hm.no8 (by intro b; simp))
  have he2 := he.upd hm hu
  replace R0 := R0.upd hu (by omega)
  have hm2 := hm.setN (n + 1)
  rw [← hw2] at hu hv2 he2 R0 hm2 ⊢
  clear hw2 he hv1 hm
  have c1 := hm2.c1
  obtain ⟨A1, k1, rfl, -, -, -⟩ := id hv2
  obtain ⟨q, hq⟩ : ∃ q, q = F.length := ⟨_, rfl⟩
  rw [← hq] at hv2 hl ⊢
  have HQ := Lib.hid hq
  clear hq
  go_wp2_with fail
  refine (lock_free muLib ⟨g, 2, none⟩ _ hm2.c2 (RowIs.fz hm2 2)).mono ?_
  rintro e w3' ⟨rfl, rfl⟩
  have hu3 : Upd g w2 (w2.setCell ⟨g, 2, none⟩ (.int .i32 1)) := (Upd.refl g w2).put 2 _
  have hm3 : MetK (w2.setCell ⟨g, 2, none⟩ (.int .i32 1)) g (n + 1) 1 (.slice none 0 0) := by
    have := RowIs.put hm2 2 (.int .i32 1)
    unfold MetK; rw [metC_def] at this
    simpa using this
  obtain ⟨w3, hw3⟩ : ∃ w3, w3 = w2.setCell ⟨g, 2, none⟩ (.int .i32 1) := ⟨_, rfl⟩
  have hv3 := hv2.upd hu3 (hm2.no8 (by intro b; simp))
  have he3 := he2.upd hm2 hu3
  replace R0 := R0.upd hu3 (by omega)
  rw [← hw3] at hu3 hv3 he3 R0 hm3 ⊢
  clear hw3 hm2 he2 hv2
  have c4 := hm3.c4
  have hq1 : Below w3.heap.size w3 (w3.alloc (.cells #[.slice A1 q k1] 27)) := (by repeat (first | with_reducible exact Below.refl _ _ | with_reducible assumption | refine Below.drew ?_ | refine below_drewN ?_ | refine Below.alloc ?_ (by first | omega | (simp; done) | (simp; omega)) _ | refine below_setRow ?_ (by omega) _ | refine Below.setCell ?_ (by first | omega | (simp; done) | (simp; omega)) _))
  have hm4 := RowIs.step hm3 hq1
  have hf4 := RowIs.fz hm4 4
  go_wp2_with (at_builtin; refine wpList_append_first rfl (.tmp 31) (.tmp 33) rfl w3.heap.size (.slice A1 q k1) rfl rfl rfl (by go_simp) ?_; intro A5 c5 w5 hb5; have hm5 := RowIs.step hm4 hb5; have hc5 := MetK.c4 (n := n + 1) (s := 1) hm5; have hf5 := RowIs.fz hm5 4)
  have hb35 : Below w3.heap.size w3 w5 := hq1.trans (hb5.mono hq1.size)
  have hz35 := hb35.size
  have hu5 : Upd g w3 (w5.setCell ⟨g, 4, none⟩ (.slice A5 1 c5)) := (Upd.of hb35).put 4 _
  have hm6 : MetK (w5.setCell ⟨g, 4, none⟩ (.slice A5 1 c5)) g (n + 1) 1 (.slice A5 1 c5) := by
    have := RowIs.put (RowIs.step hm3 hb35) 4 (.slice A5 1 c5)
    unfold MetK
    simpa using this
  have hv6 := hv3.upd hu5 (hm3.no8 (by intro b; simp))
  have he6 := hm3.env he3 hu5
  replace R0 := R0.upd hu5 (by omega)
  obtain ⟨w6, hw6⟩ : ∃ w6, w6 = w5.setCell ⟨g, 4, none⟩ (.slice A5 1 c5) := ⟨_, rfl⟩
  rw [← hw6] at hu5 hm6 hv6 he6 R0 ⊢
  clear hw6 hb35 hb5 hm5 hm4 hq1 hf4 hf5 c4 hv3 he3
  refine (sum_any _ F w6 hv6 (by rw [← HQ.out]; omega) he6.rounds he6.start).mono ?_
  rintro e w7 ⟨rfl, hb7⟩
  replace R0 := R0.step hb7
  have hm7 : MetK w7 g (n + 1) 1 (.slice A5 1 c5) := RowIs.step hm6 hb7
  have R0h := R0.has; have R0r := R0.row; have R0l := R0.lt
  have hkl := shaB_length F
  obtain ⟨D, hD⟩ : ∃ D, D = shaB F := ⟨_, rfl⟩
  have HD := Lib.hid hD
  rw [← hD] at hkl ⊢
  clear hD
  go_wp2_with fail
  have hgw : g ≠ w.heap.size := by omega
  have hm8 : MetK (w7.setRow w.heap.size (u8s D)) g (n + 1) 1 (.slice A5 1 c5) := RowIs.set_ne hm7 hgw _
  have R9 : RowIs ((w7.setRow w.heap.size (u8s D)).setCell ⟨g, 2, none⟩ (.int .i32 0)) w.heap.size (u8s D) := (R0.set (u8s D)).put_ne (a := ⟨g, 2, none⟩) (Ne.symm hgw) _
  have hU : Upd g w ((w7.setRow w.heap.size (u8s D)).setCell ⟨g, 2, none⟩ (.int .i32 0)) := (((((((Upd.of HB).trans hu).trans hu3).trans hu5).then hb7).setRow (Nat.le_refl _) (u8s D)).put 2 _)
  refine leaves_cons (f := 78) (args := #[.pointer (some ⟨g, 2, none⟩)]) (by simp) (by simp [go_sem]) ?_
  refine (unlock_deferred muLib ⟨g, 2, none⟩ .returning _ hm8.c2 (RowIs.fz hm8 2)).mono ?_
  rintro e u' w'' ⟨rfl, rfl, rfl⟩
  obtain ⟨t, ht⟩ := R9.row.heap
  rw [R9.has] at ht
  exact ⟨_, results_cell_row rfl _ _ w.heap.size t (u8s D) (0, 0) _ rfl ht Tryd.underlying33 rfl (by rw [u8s_size, hkl]; kernel_rfl), by rw [HD.out], hU⟩
theorem sload {w : World} {g : Nat} {T : List UInt8} (hr : RowIs w g (u8s T)) (hT : T.length = 32) : (loadAgg 33 (.pointer (some ⟨g, 0, none⟩))).run Tryd.prog w = .ok (.value (.agg (u8s T))) w := by
  have := run_loadAgg (P := Tryd.prog) 32 33 (by omega) (by kernel_rfl) (by kernel_rfl) w g (by rw [hr.has, u8s_size]; exact hT)
  rw [hr.has] at this; exact this
set_option maxRecDepth 100000 in
set_option maxHeartbeats 3200000 in
theorem shasums_any (vb : Value) (b : List UInt8) (w : World) (he : ShaEnv w) (hb : Bs w vb b) (h1 : b.length ≤ 1000) :
    Calls Tryd.prog 4 #[vb] w (TrueRes' w) := by
  obtain ⟨D, hD⟩ : ∃ D, D = shaB b := ⟨_, rfl⟩
  have hDl : D.length = 32 := by rw [hD, shaB_length]
  have hfl : [b].flatten = b := by simp
  have m1 := fun g vl (w : World) h1' h2' h3' => meterSum_any g 0 (.slice none 0 0) vl [b] w h1' (by intro b; simp) h2' (by rw [hfl]; omega) h3' (by omega) (by omega)
  have m2 := fun g vl (w : World) h1' h2' h3' => meterKeep_any g 0 vl [b] w h1' h2' (by rw [hfl]; omega) h3' (by omega) (by omega)
  have m3 := fun vl (w : World) h2' h3' => meterNil_any vl [b] w h2' (by rw [hfl]; omega) h3'
  have m4 := fun vb (w : World) h2' => digest_any vb b w h2' (by omega)
  unfold SumRes at m1
  unfold DigRes at m2
  rw [hfl, ← hD] at m1 m2 m3
  rw [← hD] at m4
  have M1 := Lib.hid m1; have M2 := Lib.hid m2; have M3 := Lib.hid m3; have M4 := Lib.hid m4
  clear m1 m2 m3 m4 hfl hD
  obtain ⟨A1, c1, rfl, -, -, -⟩ := id hb
  obtain ⟨n1, hn1⟩ : ∃ n, b.length = n := ⟨_, rfl⟩
  rw [hn1] at hb h1 ⊢
  clear hn1
  have i1 : ¬ (1000 : Int) < n1 := by omega
  go_enter Tryd.func4, Tryd.ntmps4
  go_wp2_with fail
  refine (awake_any _ he).mono ?_
  rintro e w1 ⟨rfl, HB⟩
  replace he := he.step HB; replace hb := hb.step HB
  go_wp2_with fail
  refine (new_any false _).mono ?_
  rintro e w2 ⟨g, rfl, hm0, hg, hb2⟩
  have hbz1 := HB.size
  replace he := he.step hb2; replace hb := hb.step hb2
  replace HB := HB.trans (hb2.mono HB.size)
  have hq : Below w2.heap.size w2 (w2.alloc (.cells #[.slice A1 n1 c1] 27)) := (by repeat (first | with_reducible exact Below.refl _ _ | with_reducible assumption | refine Below.drew ?_ | refine below_drewN ?_ | refine Below.alloc ?_ (by first | omega | (simp; done) | (simp; omega)) _ | refine below_setRow ?_ (by omega) _ | refine Below.setCell ?_ (by first | omega | (simp; done) | (simp; omega)) _))
  have LL := BsL.lit1 (gg := w2.heap.size) 27 rfl hb
  have hgl := RowIs.lt hm0
  replace hm0 : Met _ g 0 false (.slice none 0 0) := RowIs.step hm0 hq
  replace he := he.step hq; replace hb := hb.step hq
  replace HB := HB.trans (hq.mono HB.size)
  clear hb2 hq
  go_wp2_with fail
  refine (M1.out g _ _ hm0 LL he).mono ?_
  rintro e w3 ⟨rfl, hm3, hu⟩
  replace HB := hu.below HB (by omega) HB.size
  replace hb := hb.upd hu (hm0.no8 (by intro b; simp))
  replace he := he.upd hm0 hu
  have hq : Below w3.heap.size w3 (w3.alloc (.cells (u8s D) 33)) := (by repeat (first | with_reducible exact Below.refl _ _ | with_reducible assumption | refine Below.drew ?_ | refine below_drewN ?_ | refine Below.alloc ?_ (by first | omega | (simp; done) | (simp; omega)) _ | refine below_setRow ?_ (by omega) _ | refine Below.setCell ?_ (by first | omega | (simp; done) | (simp; omega)) _))
  have Q1 : RowIs (w3.alloc (.cells (u8s D) 33)) w3.heap.size (u8s D) := RowIs.new _ _ _
  replace he := he.step hq; replace hb := hb.step hq
  replace HB := HB.trans (hq.mono HB.size)
  have hz3 := HB.size
  clear hm0 hm3 hu LL hq
  go_wp2_with fail
  refine (new_any true _).mono ?_
  rintro e w4 ⟨g2, rfl, hm0, hg2, hb2⟩
  replace he := he.step hb2; replace hb := hb.step hb2
  have hq1l := Q1.lt
  replace Q1 := Q1.step hb2
  replace HB := HB.trans (hb2.mono HB.size)
  have hq : Below w4.heap.size w4 (w4.alloc (.cells #[.slice A1 n1 c1] 27)) := (by repeat (first | with_reducible exact Below.refl _ _ | with_reducible assumption | refine Below.drew ?_ | refine below_drewN ?_ | refine Below.alloc ?_ (by first | omega | (simp; done) | (simp; omega)) _ | refine below_setRow ?_ (by omega) _ | refine Below.setCell ?_ (by first | omega | (simp; done) | (simp; omega)) _))
  have LL := BsL.lit1 (gg := w4.heap.size) 27 rfl hb
  replace hm0 : Met _ g2 0 true (.slice none 0 0) := RowIs.step hm0 hq
  replace he := he.step hq; replace hb := hb.step hq; replace Q1 := Q1.step hq
  replace HB := HB.trans (hq.mono HB.size)
  clear hb2 hq
  go_wp2_with fail
  refine (M2.out g2 _ _ hm0 LL he).mono ?_
  rintro e w5 ⟨rfl, hu⟩
  replace HB := hu.below HB (by omega) HB.size
  replace hb := hb.upd hu (hm0.no8 (by intro b; simp))
  replace he := he.upd hm0 hu
  replace Q1 := Q1.upd hu (by omega)
  have hq : Below w5.heap.size w5 (w5.alloc (.cells (u8s D) 33)) := (by repeat (first | with_reducible exact Below.refl _ _ | with_reducible assumption | refine Below.drew ?_ | refine below_drewN ?_ | refine Below.alloc ?_ (by first | omega | (simp; done) | (simp; omega)) _ | refine below_setRow ?_ (by omega) _ | refine Below.setCell ?_ (by first | omega | (simp; done) | (simp; omega)) _))
  have Q2 : RowIs (w5.alloc (.cells (u8s D) 33)) w5.heap.size (u8s D) := RowIs.new _ _ _
  replace he := he.step hq; replace hb := hb.step hq; replace Q1 := Q1.step hq
  replace HB := HB.trans (hq.mono HB.size)
  clear hm0 hu LL hq
  have hq : Below (w5.alloc (.cells (u8s D) 33)).heap.size (w5.alloc (.cells (u8s D) 33)) ((w5.alloc (.cells (u8s D) 33)).alloc (.cells #[.slice A1 n1 c1] 27)) := (by repeat (first | with_reducible exact Below.refl _ _ | with_reducible assumption | refine Below.drew ?_ | refine below_drewN ?_ | refine Below.alloc ?_ (by first | omega | (simp; done) | (simp; omega)) _ | refine below_setRow ?_ (by omega) _ | refine Below.setCell ?_ (by first | omega | (simp; done) | (simp; omega)) _))
  have LL := BsL.lit1 (gg := w5.heap.size + 1) 27 (by simp) hb
  replace he := he.step hq; replace hb := hb.step hq; replace Q1 := Q1.step hq; replace Q2 := Q2.step hq
  replace HB := HB.trans (hq.mono HB.size)
  clear hq
  go_wp2_with fail
  refine (M3.out _ _ LL he).mono ?_
  rintro e w6 ⟨rfl, hb6⟩
  replace he := he.step hb6; replace hb := hb.step hb6; replace Q1 := Q1.step hb6; replace Q2 := Q2.step hb6
  replace HB := HB.trans (hb6.mono HB.size)
  have hq : Below w6.heap.size w6 (w6.alloc (.cells (u8s D) 33)) := (by repeat (first | with_reducible exact Below.refl _ _ | with_reducible assumption | refine Below.drew ?_ | refine below_drewN ?_ | refine Below.alloc ?_ (by first | omega | (simp; done) | (simp; omega)) _ | refine below_setRow ?_ (by omega) _ | refine Below.setCell ?_ (by first | omega | (simp; done) | (simp; omega)) _))
  have Q3 : RowIs (w6.alloc (.cells (u8s D) 33)) w6.heap.size (u8s D) := RowIs.new _ _ _
  replace he := he.step hq; replace hb := hb.step hq; replace Q1 := Q1.step hq; replace Q2 := Q2.step hq
  replace HB := HB.trans (hq.mono HB.size)
  clear LL hq hb6
  go_wp2_with fail
  refine (M4.out _ _ hb).mono ?_
  rintro e w7 ⟨rfl, hb7⟩
  replace he := he.step hb7; replace hb := hb.step hb7; replace Q1 := Q1.step hb7; replace Q2 := Q2.step hb7; replace Q3 := Q3.step hb7
  replace HB := HB.trans (hb7.mono HB.size)
  have hq : Below w7.heap.size w7 (w7.alloc (.cells (u8s D) 33)) := (by repeat (first | with_reducible exact Below.refl _ _ | with_reducible assumption | refine Below.drew ?_ | refine below_drewN ?_ | refine Below.alloc ?_ (by first | omega | (simp; done) | (simp; omega)) _ | refine below_setRow ?_ (by omega) _ | refine Below.setCell ?_ (by first | omega | (simp; done) | (simp; omega)) _))
  have Q4 : RowIs (w7.alloc (.cells (u8s D) 33)) w7.heap.size (u8s D) := RowIs.new _ _ _
  replace he := he.step hq; replace hb := hb.step hq; replace Q1 := Q1.step hq; replace Q2 := Q2.step hq; replace Q3 := Q3.step hq
  replace HB := HB.trans (hq.mono HB.size)
  have L1 := sload Q1 hDl
  have L2 := sload Q2 hDl
  have L3 := sload Q3 hDl
  have L4 := sload Q4 hDl
  clear hq hb7 hb he
  go_wp2_with fail
  go_ret
  exact ⟨by simp, HB⟩
theorem walk_ShaSums (A1 : Option Addr) (c1 : Nat) (b : List UInt8) (w : World) (he : ShaEnv w) (hc1 : b.length ≤ c1) (hr1 : Rd8 w w.heap.size A1 b) :
    Calls Tryd.prog 4 #[.slice A1 b.length c1] w (TrueRes' w) := by
  by_cases h : b.length ≤ 1000
  · exact shasums_any _ b w he (Bs.of hc1 (by omega) hr1) h
  · obtain ⟨n1, hn1⟩ : ∃ n, b.length = n := ⟨_, rfl⟩
    rw [hn1] at h ⊢
    have hd : (1000 : Int) < n1 := by omega
    clear hr1 hc1 hn1
    go_enter Tryd.func4, Tryd.ntmps4
    go_wp2_with (go_at_call 19; refine (awake_any _ he).mono ?_; rintro e w1 ⟨rfl, hb1⟩)
    all_goals (go_ret; exact ⟨rfl, by assumption⟩)
end Go.Proofs.YtopmdbmnlflpgaaDoor
