/- A meter that keeps: what its Sum does to what it kept. -/
import Derived.Test.YtopmdbmnlflpgaaDoorSSums
import Derived.Test.YtopmdbmnlflpgaaDoorOwnL
namespace Go.Proofs.YtopmdbmnlflpgaaDoor
open Go.RowKit Go.MuLone
/-- all that was there stays, but for block g and an own list's block -/
structure UpdV (g : Nat) (row : Option Nat) (w w' : World) : Prop where
  os : w'.os = w.os
  tape : w'.tape = w.tape
  output : w'.output = w.output
  size : w.heap.size ≤ w'.heap.size
  block : ∀ k, k < w.heap.size → k ≠ g → row ≠ some k → w'.heap[k]? = w.heap[k]?
theorem UpdV.of {g : Nat} {row : Option Nat} {w w1 w2 : World} (h : Upd g w w1) (hg : w1.grownBy w2 row) : UpdV g row w w2 :=
  ⟨hg.os.trans h.os, hg.tape.trans h.tape, hg.output.trans h.output, Nat.le_trans h.size hg.size, fun k hk hne hr => (hg.block k (Nat.lt_of_lt_of_le hk h.size) (fun e => hr e.symm)).trans (h.block k hk hne)⟩
theorem UpdV.upd {g : Nat} {row : Option Nat} {w w1 w2 : World} (h : UpdV g row w w1) (hu : Upd g w1 w2) : UpdV g row w w2 :=
  ⟨hu.os.trans h.os, hu.tape.trans h.tape, hu.output.trans h.output, Nat.le_trans h.size hu.size, fun k hk hne hr => (hu.block k (Nat.lt_of_lt_of_le hk h.size) hne).trans (h.block k hk hne hr)⟩
theorem UpdV.setRow {g r : Nat} {row : Option Nat} {w w1 : World} (h : UpdV g row w w1) (hr : w.heap.size ≤ r) (cs : Array Value) : UpdV g row w (w1.setRow r cs) :=
  ⟨h.os, h.tape, h.output, by have := h.size; simp [World.setRow]; exact this, fun k hk hne hw => by
    have e := (below_setRow (Below.refl r w1) (Nat.le_refl _) cs).block k (by omega)
    rw [e]; exact h.block k hk hne hw⟩
theorem RowIs.updV {w w' : World} {r g : Nat} {row : Option Nat} {cs : Array Value} (h : RowIs w r cs) (hu : UpdV g row w w') (hg : r ≠ g) (hr : row ≠ some r) : RowIs w' r cs := by
  have e := hu.block r h.lt hg hr
  exact ⟨by unfold IsRow; rw [e]; exact h.row, by unfold rowOf; rw [e]; exact h.has⟩
theorem Bs.updV {w w' : World} {v : Value} {l : List UInt8} {g : Nat} {row : Option Nat} (h : Bs w v l) (hu : UpdV g row w w') (hn : No8 w g) (hr : ∀ k, row = some k → No8 w k) : Bs w' v l := by
  obtain ⟨A, c, h1, h2, h3, h4⟩ := h
  refine ⟨A, c, h1, h2, h3, fun h0 => ?_⟩
  obtain ⟨b, o, rfl, hb, hc⟩ := h4 h0
  have hg : b ≠ g := by
    rintro rfl
    exact hn _ _ (hc 0 (by omega))
  have hw : row ≠ some b := fun e => hr b e _ _ (hc 0 (by omega))
  exact ⟨b, o, rfl, Nat.lt_of_lt_of_le hb hu.size, fun i hi => (World.cell?_of_block (w := w) (hu.block b hb hg hw)).trans (hc i hi)⟩
/-- what a kept Sum leaves as it was -/
structure KeepStep (g base : Nat) (w w' : World) : Prop where
  row : ∀ r cs, RowIs w r cs → r ≠ g → cs.all isSl = false → RowIs w' r cs
  bs : ∀ v l, Bs w v l → Bs w' v l
  below : ∀ b, b ≤ base → b ≤ g → Below b w w'
  size : w.heap.size ≤ w'.heap.size
theorem KeepStep.mk' {g base : Nat} {w w' : World} {v : Value} {ks : BL} {n : Int} (hm : Met w g n true v) (ho : OwnL w base v ks) (hb : base ≤ w.heap.size) (hu : UpdV g v.ownBlock w w') : KeepStep g base w w' := by
  obtain ⟨A, c, e, -⟩ := ho.slice
  refine ⟨fun r cs h hr hn => h.updV hu hr (ho.ne_row h hn), fun u l h => h.updV hu (hm.no8 (by rw [e]; intro b; simp)) (fun k hk => ho.no8 hk), fun b h1 h2 => ⟨hu.os, hu.tape, hu.output, hu.size, fun k hk => hu.block k (by omega) (by omega) (fun e => by have := (ho.lt e).1; omega)⟩, hu.size⟩
theorem metC_no (n : Int) (k : Bool) (all : Value) : (metC n k all).all isSl = false := by rw [metC_def]; simp [isSl]
theorem metK_no (n s : Int) (all : Value) : (#[.int .i64 n, .bool true, .int .i32 s, .int .u32 0, all] : Array Value).all isSl = false := by simp [isSl]
theorem key_no {D : List UInt8} (hD : D.length = 32) : (u8s D).all isSl = false := by
  cases D with
  | nil => simp at hD
  | cons a r => rw [u8s_def]; simp [isSl]
theorem OwnG.updL {T : TypeId} {s : Nat} {p : Value → Bool} {w w' : World} {base n g : Nat} {v : Value} {xs : List Value} (h : OwnG T s p w base v n xs) (hu : Upd g w w') (hne : v.ownBlock ≠ some g) : OwnG T s p w' base v n xs :=
  h.keep fun k hk _ hl => hu.block k hl (fun e => hne (by rw [hk, e]))
theorem Bs.setRow_ne {w : World} {A : Option Addr} {n c r : Nat} {l : List UInt8} {cs : Array Value} (h : Bs w (.slice A n c) l) (hf : 0 < l.length → ∃ b o, A = some ⟨b, o, none⟩ ∧ b ≠ r) : Bs (w.setRow r cs) (.slice A n c) l := by
  obtain ⟨A', c', h1, h2, h3, h4⟩ := h
  refine ⟨A', c', h1, h2, h3, fun h0 => ?_⟩
  obtain ⟨b, o, rfl, hb, hc⟩ := h4 h0
  obtain ⟨b2, o2, e, hne⟩ := hf h0
  injection h1 with e1 e2 e3
  rw [e] at e1
  injection e1 with e1
  injection e1 with e4 e5 e6
  rw [e4] at hne
  exact ⟨b, o, rfl, by simp [World.setRow]; exact hb, fun i hi => (World.cell?_of_block (w := w) (a := ⟨b, o + i, none⟩) (setRow_other w r b _ hne)).trans (hc i hi)⟩
/-- one slice of bytes appended to an own list -/
theorem wpList_appendL1 {w : World} {o : Oper} {a : Act} {ops : Array Oper} {rest : List Oper} {Q : Exit → Act → World → Prop} (hgd : o.guard = none) (sl x : Operand) (ho : o.op = .call { callee := .builtin .append, args := #[sl, x], argTypes := #[42, 42] })
    {base n b : Nat} {v u : Value} {vs : List Value} (hsv : a.eval sl = v) (hown : OwnG 27 1 isSl w base v n vs) (hx : a.eval x = .slice (some ⟨b, 0, none⟩) 1 1) (hc : w.cell? ⟨b, 0, none⟩ = some u) (hu : u.oneCell' = true) (hu2 : isSl u = true) (hb : n + 1 ≤ 1000000) (hbase : base ≤ w.heap.size)
    (hK : ∀ A' c' w', OwnG 27 1 isSl w' base (.slice A' (n + 1) c') (n + 1) (vs ++ [u]) → w.grownBy w' v.ownBlock → wpList Tryd.prog ops Q rest (a.put o.dst (.slice A' (n + 1) c')) w') : wpList Tryd.prog ops Q (o :: rest) a w := by
  obtain ⟨i, hi1, hz, hs1, hb1⟩ := info_parts slInfo
  refine wpList_plain hgd fun _ hK' => ?_
  exact wp_appendG (p := isSl) (s := 1) Tryd.underlying42 hi1 hz hs1 hb1 (by simp [Value.cells]) (by omega) (by simp [Value.cells, isSl]) sl x ho hsv hown hx rfl (fun _ => ⟨b, 0, rfl, fun j y hy => by
    have hj : j = 0 := by have := (List.getElem?_eq_some_iff.1 hy).1; simpa using this
    subst hj
    have e : u = y := by simpa using hy
    rw [← e]; exact hc⟩) (fun y hy => by obtain rfl : y = u := by simpa using hy
                                         exact hu) (fun y hy => by obtain rfl : y = u := by simpa using hy
                                                                   exact hu2) rfl (by simp only [maxLen]; omega) (by omega) hbase (fun A' c' w' q1 q2 _ => hK' _ _ (hK A' c' w' q1 q2))
theorem OwnG.unique {T : TypeId} {s : Nat} {p : Value → Bool} {w : World} {base n : Nat} {v : Value} {xs ys : List Value} (h : OwnG T s p w base v n xs) (k : OwnG T s p w base v n ys) : xs = ys := by
  rcases h.2 with ⟨h1, h2⟩ | ⟨g, o, c, cur, hv, hg, hh, hn, hm, hcs, htk, _⟩
  · have e1 := h.1; have e2 := k.1
    subst h2
    rw [Nat.zero_mul] at e1 e2
    rw [List.eq_nil_of_length_eq_zero e1, List.eq_nil_of_length_eq_zero e2]
  · rcases k.2 with ⟨k1, _⟩ | ⟨g', o', c', cur', hv', hg', hh', hn', hm', hcs', htk', _⟩
    · rw [k1] at hv; cases hv
    · rw [hv] at hv'
      injection hv' with e1 e2 e3
      injection e1 with e1
      injection e1 with e4 e5 e6
      subst e4; subst e5
      rw [hh] at hh'
      injection hh' with hh'
      injection hh' with e7 e8 e9
      subst e7
      rw [← htk, ← htk']
/-- an own list none of whose elements lies in block r -/
def Kept (r : Nat) (w : World) (base : Nat) (v : Value) (ks : BL) : Prop :=
  ∃ vs, OwnG 27 1 isSl w base v ks.length vs ∧ BsAll w vs ks ∧ ∀ i u, vs[i]? = some u → 0 < (nthL ks i).length → u.ownBlock ≠ some r
theorem Kept.of {r : Nat} {w : World} {base : Nat} {v : Value} {ks : BL} (h : OwnL w base v ks) (hr : w.heap.size ≤ r) : Kept r w base v ks := by
  obtain ⟨vs, h1, h2⟩ := h
  refine ⟨vs, h1, h2, fun i u hu h0 e => ?_⟩
  have hi : i < ks.length := by
    have := (List.getElem?_eq_some_iff.1 hu).1
    rw [h2.len] at this; exact this
  obtain ⟨u', hu', hb⟩ := h2.get i hi
  rw [hu] at hu'
  obtain rfl := Option.some.inj hu'
  obtain ⟨A, c, rfl, _, _, hrd⟩ := hb
  obtain ⟨b, o, rfl, hlt, _⟩ := hrd h0
  have e2 : b = r := Option.some.inj e
  omega
theorem Kept.own {r : Nat} {w : World} {base : Nat} {v : Value} {ks : BL} (h : Kept r w base v ks) : OwnL w base v ks := by obtain ⟨vs, h1, h2, _⟩ := h; exact ⟨vs, h1, h2⟩
theorem Kept.step {r : Nat} {w w' : World} {base : Nat} {v : Value} {ks : BL} (h : Kept r w base v ks) (hb : Below w.heap.size w w') : Kept r w' base v ks := by
  obtain ⟨vs, h1, h2, h3⟩ := h
  exact ⟨vs, h1.step hb, h2.map fun _ _ h => h.step hb, h3⟩
theorem BsAll.off {w w' : World} {r : Nat} (hf : ∀ v l, Bs w v l → (0 < l.length → v.ownBlock ≠ some r) → Bs w' v l) : ∀ {vs : List Value} {ls : BL}, BsAll w vs ls → (∀ i u, vs[i]? = some u → 0 < (nthL ls i).length → u.ownBlock ≠ some r) → BsAll w' vs ls
  | [], [], _, _ => trivial
  | v :: vs, l :: ls, h, k => ⟨hf _ _ h.1 (fun h0 => k 0 v rfl (by rw [nthL_def]; exact h0)), h.2.off hf fun i u hu h0 => k (i + 1) u (by simpa using hu) (by rw [nthL_def] at h0 ⊢; exact h0)⟩
  | [], _ :: _, h, _ => h.elim
  | _ :: _, [], h, _ => h.elim
theorem Kept.setRow {r : Nat} {w : World} {base : Nat} {v : Value} {ks : BL} (h : Kept r w base v ks) (hne : v.ownBlock ≠ some r) (cs : Array Value) : OwnL (w.setRow r cs) base v ks := by
  obtain ⟨vs, h1, h2, h3⟩ := h
  refine ⟨vs, h1.keep fun k hk _ _ => setRow_other w r k _ (fun e => hne (by rw [hk, e])), h2.off (r := r) (fun u l hB hoff => ?_) h3⟩
  obtain ⟨A, c, rfl, q1, q2, q3⟩ := id hB
  exact hB.setRow_ne fun h0 => by
    obtain ⟨b, o, rfl, _, _⟩ := q3 h0
    exact ⟨b, o, rfl, fun e => hoff h0 (by rw [← e]; rfl)⟩
def KeepRes (g base : Nat) (n : Int) (v : Value) (ks : BL) (F : List UInt8) (w : World) (e : Ending) (w' : World) : Prop :=
  e = .returned (.agg (u8s (shaB F))) ∧ (∃ v', Met w' g (n + 1) true v' ∧ OwnL w' base v' (ks ++ [F]) ∧ ∀ r, r < w.heap.size → Kept r w base v ks → Kept r w' base v' (ks ++ [F])) ∧ KeepStep g base w w'
set_option maxRecDepth 100000 in
set_option maxHeartbeats 1600000 in
theorem keep_any (g base : Nat) (n : Int) (v vl : Value) (ks ls : List (List UInt8)) (w : World) (hm : Met w g n true v) (hown : OwnL w base v ks) (hbase : base ≤ w.heap.size) (hkl : ks.length ≤ 1000) (hr : BsL w vl ls) (hl : ls.flatten.length ≤ 17592186044416)
    (he : ShaEnv w) (h1 : -4611686018427387904 ≤ n) (h2 : n ≤ 4611686018427387904) :
    Calls Tryd.prog 26 #[.pointer (some ⟨g, 0, none⟩), vl] w (KeepRes g base n v ks ls.flatten w) := by
  have hm00 := hm; have hown00 := hown
  obtain ⟨F, hF⟩ : ∃ F, F = ls.flatten := ⟨_, rfl⟩
  have hj := fun w h => join_any vl ls (by rw [sumLen_flat]; omega) w h
  rw [← hF] at hj hl ⊢
  have HJ := Lib.hid hj
  clear hF hj
  have hgl := hm.lt
  obtain ⟨A0, c0, rfl, -⟩ := hown.slice
  obtain ⟨vs, hown, hall⟩ := hown
  have HALL := Lib.hid hall
  have hownW := hown
  obtain ⟨nk, hnk⟩ : ∃ n, n = ks.length := ⟨_, rfl⟩
  have HNK := Lib.hid hnk
  rw [← hnk] at hm hown hm00 hkl hownW ⊢
  clear hnk hall
  go_enter_defers Tryd.func26, Tryd.ntmps26
  go_wp2_with fail
  have HB : Below w.heap.size w (w.alloc (.cells (u8s (zeros 32)) 33)) := (by repeat (first | with_reducible exact Below.refl _ _ | with_reducible assumption | refine Below.drew ?_ | refine below_drewN ?_ | refine Below.alloc ?_ (by first | omega | (simp; done) | (simp; omega)) _ | refine below_setRow ?_ (by omega) _ | refine Below.setCell ?_ (by first | omega | (simp; done) | (simp; omega)) _))
  refine (HJ.out _ (hr.step HB)).mono ?_
  rintro e w1 ⟨A1, k1, rfl, hown1, hb1⟩
  have hz0 : w.heap.size < (w.alloc (.cells (u8s (zeros 32)) 33)).heap.size := by simp
  have hfr : 0 < F.length → ∃ b o, A1 = some ⟨b, o, none⟩ ∧ w.heap.size < b := fun h0 => by
    obtain ⟨b, cap, hv, hbb, _⟩ := World.ownsRow.form hown1 h0
    injection hv with hA
    exact ⟨b, 0, hA, by omega⟩
  have HFR := Lib.hid hfr
  have hv1 : Bs w1 (.slice A1 F.length k1) F := Bs.of hown1.len.2 (by omega) hown1.rd
  clear hown1 hfr hz0
  have R0 : RowIs w1 w.heap.size (u8s (zeros 32)) := (RowIs.new _ _ _).step hb1
  replace HB := HB.trans (hb1.mono HB.size)
  replace hm := hm.step HB
  replace he := he.step HB
  replace hown := hown.step HB
  have hz1 := HB.size
  clear hb1
  go_wp2_with fail
  refine (add_any g n 1 h1 h2 (by omega) (by omega) w1 hm.c0 (RowIs.fz hm 0)).mono ?_
  rintro e w2' ⟨rfl, rfl⟩
  have hu : Upd g w1 (w1.setCell ⟨g, 0, none⟩ (.int .i64 (n + 1))) := (Upd.refl g w1).put 0 _
  obtain ⟨w2, hw2⟩ : ∃ w2, w2 = w1.setCell ⟨g, 0, none⟩ (.int .i64 (n + 1)) := ⟨_, rfl⟩
  have hv2 := hv1.upd hu (hm.no8 (by intro b; simp))
  have he2 := he.upd hm hu
  replace R0 := R0.upd hu (by omega)
  replace hown := hown.updL hu (hown.ne_row hm (metC_no _ _ _))
  have hm2 := hm.setN (n + 1)
  have hz2 := Nat.le_trans hz1 hu.size
  rw [← hw2] at hu hv2 he2 R0 hm2 hown hz2 ⊢
  clear hw2 he hv1 hm
  have c1 := hm2.c1
  obtain ⟨q, hq⟩ : ∃ q, q = F.length := ⟨_, rfl⟩
  rw [← hq] at hv2 hl ⊢
  have HQ := Lib.hid hq
  clear hq
  go_wp2_with fail
  refine (lock_free muLib ⟨g, 2, none⟩ _ hm2.c2 (RowIs.fz hm2 2)).mono ?_
  rintro e w3' ⟨rfl, rfl⟩
  have hu3 : Upd g w2 (w2.setCell ⟨g, 2, none⟩ (.int .i32 1)) := (Upd.refl g w2).put 2 _
  have hm3 : MetK (w2.setCell ⟨g, 2, none⟩ (.int .i32 1)) g (n + 1) 1 (.slice A0 nk c0) := by
    have := RowIs.put hm2 2 (.int .i32 1)
    unfold MetK; rw [metC_def] at this
    simpa using this
  replace hown := hown.updL hu3 (hown.ne_row hm2 (metC_no _ _ _))
  obtain ⟨w3, hw3⟩ : ∃ w3, w3 = w2.setCell ⟨g, 2, none⟩ (.int .i32 1) := ⟨_, rfl⟩
  have hv3 := hv2.upd hu3 (hm2.no8 (by intro b; simp))
  have he3 := he2.upd hm2 hu3
  replace R0 := R0.upd hu3 (by omega)
  have hz3 := Nat.le_trans hz2 hu3.size
  rw [← hw3] at hu3 hv3 he3 R0 hm3 hown hz3 ⊢
  clear hw3 hm2 he2 hv2
  have c4 := hm3.c4
  have hq1 : Below w3.heap.size w3 (w3.alloc (.cells #[.slice A1 q k1] 27)) := (by repeat (first | with_reducible exact Below.refl _ _ | with_reducible assumption | refine Below.drew ?_ | refine below_drewN ?_ | refine Below.alloc ?_ (by first | omega | (simp; done) | (simp; omega)) _ | refine below_setRow ?_ (by omega) _ | refine Below.setCell ?_ (by first | omega | (simp; done) | (simp; omega)) _))
  have hm4 := RowIs.step hm3 hq1
  have hf4 := RowIs.fz hm4 4
  have hown4 := hown.step hq1
  have hv4 := hv3.step hq1
  have he4 := he3.step hq1
  have R4 := R0.step hq1
  have hne4 := hown4.ne_row hm4 (metK_no _ _ _)
  have hneR := hown4.ne_row R4 (key_no (zeros_length 32))
  have hbase4 : base ≤ (w3.alloc (.cells #[.slice A1 q k1] 27)).heap.size := by have := hq1.size; omega
  go_wp2_with (at_builtin; refine wpList_appendL1 rfl (.tmp 31) (.tmp 33) rfl rfl hown4 (b := w3.heap.size) rfl (u := .slice A1 q k1) (by go_simp) rfl rfl (by omega) hbase4 ?_; intro A5 c5 w5 own5 gr5; have hm5 := RowIs.grown hm4 gr5 hne4; have hc5 := MetK.c4 (n := n + 1) (s := 1) hm5; have hf5 := RowIs.fz hm5 4)
  have hv5 := hv4.grown gr5 (fun k hk => hown4.no8 (fun _ => rfl) hk)
  have R5 := R4.grown gr5 hneR
  have hV : UpdV g (Value.slice A0 nk c0).ownBlock w w5 := UpdV.of (((((Upd.of HB).trans hu).trans hu3).then hq1)) gr5
  have he5 : ShaEnv w5 := ⟨he4.rounds.grown gr5 (hown4.ne_row he4.rounds (by rw [u32s_def]; simp [roundsL, isSl])), he4.start.grown gr5 (hown4.ne_row he4.start (by rw [u32s_def]; simp [startS, isSl]))⟩
  have hu5 : Upd g w5 (w5.setCell ⟨g, 4, none⟩ (.slice A5 (nk + 1) c5)) := (Upd.refl g w5).put 4 _
  have hm6 : MetK (w5.setCell ⟨g, 4, none⟩ (.slice A5 (nk + 1) c5)) g (n + 1) 1 (.slice A5 (nk + 1) c5) := by
    have := RowIs.put hm5 4 (.slice A5 (nk + 1) c5)
    unfold MetK
    simpa using this
  have n85 : No8 w5 g := MetK.no8 hm5 (by intro b; simp)
  have hv6 := hv5.upd hu5 n85
  have own6 := own5.updL hu5 (own5.ne_row hm5 (metK_no _ _ _))
  have he6 := MetK.env hm5 he5 hu5
  replace R5 := R5.upd hu5 (by omega)
  replace hV := hV.upd hu5
  obtain ⟨w6, hw6⟩ : ∃ w6, w6 = w5.setCell ⟨g, 4, none⟩ (.slice A5 (nk + 1) c5) := ⟨_, rfl⟩
  rw [← hw6] at hm6 hv6 he6 R5 own6 hV ⊢
  clear hw6 hu5 hm5 hm4 hq1 hf4 hf5 c4 hv3 he3 hown4 hown hv4 he4 R4 hne4 hneR gr5 own5 hu hu3 hm3 R0 he5 hv5
  refine (sum_any _ F w6 hv6 (by rw [← HQ.out]; omega) he6.rounds he6.start).mono ?_
  rintro e w7 ⟨rfl, hb7⟩
  have R0 := R5.step hb7
  have hm7 : MetK w7 g (n + 1) 1 (.slice A5 (nk + 1) c5) := RowIs.step hm6 hb7
  have own7 := own6.step hb7
  replace hV := hV.upd (Upd.of hb7)
  have own7r := own7.ne_row R0 (key_no (zeros_length 32))
  have R0h := R0.has; have R0r := R0.row; have R0l := R0.lt
  have hkl := shaB_length F
  obtain ⟨D, hD⟩ : ∃ D, D = shaB F := ⟨_, rfl⟩
  have HD := Lib.hid hD
  rw [← hD] at hkl ⊢
  clear hD R5 own6 he6 hm6
  go_wp2_with fail
  have hgw : g ≠ w.heap.size := by omega
  have hm8 : MetK (w7.setRow w.heap.size (u8s D)) g (n + 1) 1 (.slice A5 (nk + 1) c5) := RowIs.set_ne hm7 hgw _
  have own8 : OwnG 27 1 isSl (w7.setRow w.heap.size (u8s D)) base (.slice A5 (nk + 1) c5) (nk + 1) (vs ++ [.slice A1 q k1]) := own7.keep fun k hk _ _ => setRow_other w7 w.heap.size k _ (fun e => own7r (by rw [hk, e]))
  have hv8 := (hv6.step hb7).setRow_ne (r := w.heap.size) (cs := u8s D) (fun h0 => by obtain ⟨b, o, e, hlt⟩ := HFR.out h0; exact ⟨b, o, e, by omega⟩)
  have n88 := MetK.no8 hm8 (by intro b; simp)
  have hv9 := hv8.upd ((Upd.refl g _).put 2 (.int .i32 0)) n88
  have own9 := own8.updL ((Upd.refl g _).put 2 (.int .i32 0)) (own8.ne_row hm8 (metK_no _ _ _))
  have R9 : RowIs ((w7.setRow w.heap.size (u8s D)).setCell ⟨g, 2, none⟩ (.int .i32 0)) w.heap.size (u8s D) := (R0.set (u8s D)).put_ne (a := ⟨g, 2, none⟩) (Ne.symm hgw) _
  replace hV := (hV.setRow (Nat.le_refl _) (u8s D)).upd ((Upd.refl g _).put 2 (.int .i32 0))
  refine leaves_cons (f := 78) (args := #[.pointer (some ⟨g, 2, none⟩)]) (by simp) (by simp [go_sem]) ?_
  refine (unlock_deferred muLib ⟨g, 2, none⟩ .returning _ hm8.c2 (RowIs.fz hm8 2)).mono ?_
  rintro e u' w'' ⟨rfl, rfl, rfl⟩
  obtain ⟨t, ht⟩ := R9.row.heap
  rw [R9.has] at ht
  have hm9 : Met ((w7.setRow w.heap.size (u8s D)).setCell ⟨g, 2, none⟩ (.int .i32 0)) g (n + 1) true (.slice A5 (nk + 1) c5) := by
    have := RowIs.put hm8 2 (.int .i32 0)
    unfold Met; rw [metC_def]
    simpa using this
  have hK := KeepStep.mk' hm00 (by rw [HNK.out]; exact hown00) hbase hV
  have hA9 : BsAll _ (vs ++ [.slice A1 q k1]) (ks ++ [F]) := (HALL.out.map hK.bs).append ⟨hv9, trivial⟩
  have hL9 : (ks ++ [F]).length = nk + 1 := by rw [List.length_append, ← HNK.out]; rfl
  have hlen := hA9.len
  refine ⟨_, results_cell_row rfl _ _ w.heap.size t (u8s D) (0, 0) _ rfl ht Tryd.underlying33 rfl (by rw [u8s_size, hkl]; kernel_rfl), by rw [HD.out], ⟨_, hm9, ⟨vs ++ [.slice A1 q k1], by rw [hL9]; exact own9, hA9⟩, fun r hr hkp => ⟨vs ++ [.slice A1 q k1], by rw [hL9]; exact own9, hA9, fun i u hu h0 => ?_⟩⟩, hK⟩
  obtain ⟨vs2, g2, a2, off2⟩ := hkp
  obtain ⟨vs0, g0, a0⟩ := hown00
  have hl0 := a0.len
  obtain rfl : vs2 = vs := g2.unique (by rw [← HNK.out]; exact hownW)
  rcases Nat.lt_or_ge i vs2.length with hi | hi
  · rw [List.getElem?_append_left hi] at hu
    refine off2 i u hu ?_
    have e : nthL (ks ++ [F]) i = nthL ks i := by rw [nthL_def, nthL_def, List.getD_eq_getElem?_getD, List.getD_eq_getElem?_getD, List.getElem?_append_left (by rw [← a2.len]; exact hi)]
    rw [e] at h0; exact h0
  · have hlt := (List.getElem?_eq_some_iff.1 hu).1
    rw [List.length_append] at hlt
    have hi2 : i = vs2.length := by simp at hlt; omega
    subst hi2
    have e : nthL (ks ++ [F]) vs2.length = F := by rw [a2.len, nthL_def, List.getD_eq_getElem?_getD, List.getElem?_append_right (Nat.le_refl _)]; simp
    rw [e] at h0
    obtain ⟨b, o, eA, hlt2⟩ := HFR.out h0
    have eu : u = .slice A1 q k1 := by simpa using hu.symm
    rw [eu, eA]
    intro e3
    have : b = r := Option.some.inj e3
    omega
end Go.Proofs.YtopmdbmnlflpgaaDoor
