/- A meter that keeps: what its Sum does to what it kept. | A meter that keeps: its Inputs, and its Count. | A meter, keeping or not: Inputs; and Sum with either. | A map keyed by digests, and a meter's Alike where all inputs are the same. | A meter's Alike where all its inputs are the same. | A map from digests to the first place of each; a meter's Alike for any inputs. | A meter's Alike for any inputs: the walk. | The document's Log that keeps: its Sum. | The document's Log: its Alike. | Two answers of Alike about one list are the same. | The document's Log, keeping or not: its Sum, exactly counted. -/
import Derived.Test.YtopmdbmnlflpgaaDoorSSums
import Derived.Test.YtopmdbmnlflpgaaDoorOwnL
import Derived.WideKeyRuns
import Derived.MapKept
import Derived.Carry
namespace Go.Proofs.YtopmdbmnlflpgaaDoor
section
open Go.RowKit Go.MuLone
/-- all that was there stays, but for block g and an own list's block -/
structure UpdV (g : Nat) (row : Option Nat) (w w' : World) : Prop where
  os : w'.os = w.os
  tape : w'.tape = w.tape
  output : w'.output = w.output
  size : w.heap.size ≤ w'.heap.size
  block : ∀ k, k < w.heap.size → k ≠ g → row ≠ some k → w'.heap[k]? = w.heap[k]?
theorem UpdV.of {g : Nat} {row : Option Nat} {w w1 w2 : World} (h : Upd g w w1) (hg : w1.grownBy w2 row) : UpdV g row w w2 :=
  ⟨hg.os.trans h.os, hg.tape.trans h.tape, hg.output.trans h.output, Nat.le_trans h.size hg.size, fun k hk hne hr => (hg.block k (Nat.lt_of_lt_of_le hk h.size) (fun e => hr e.symm)).trans (h.block k hk hne)⟩
theorem UpdV.upd {g : Nat} {row : Option Nat} {w w1 w2 : World} (h : UpdV g row w w1) (hu : Upd g w1 w2) : UpdV g row w w2 :=
  ⟨hu.os.trans h.os, hu.tape.trans h.tape, hu.output.trans h.output, Nat.le_trans h.size hu.size, fun k hk hne hr => (hu.block k (Nat.lt_of_lt_of_le hk h.size) hne).trans (h.block k hk hne hr)⟩
theorem UpdV.setRow {g r : Nat} {row : Option Nat} {w w1 : World} (h : UpdV g row w w1) (hr : w.heap.size ≤ r) (cs : Array Value) : UpdV g row w (w1.setRow r cs) :=
  ⟨h.os, h.tape, h.output, by have := h.size; simp [World.setRow]; exact this, fun k hk hne hw => by
    have e := (below_setRow (Below.refl r w1) (Nat.le_refl _) cs).block k (by omega)
    rw [e]; exact h.block k hk hne hw⟩
theorem RowIs.updV {w w' : World} {r g : Nat} {row : Option Nat} {cs : Array Value} (h : RowIs w r cs) (hu : UpdV g row w w') (hg : r ≠ g) (hr : row ≠ some r) : RowIs w' r cs := by
  have e := hu.block r h.lt hg hr
  exact ⟨by unfold IsRow; rw [e]; exact h.row, by unfold rowOf; rw [e]; exact h.has⟩
theorem Bs.updV {w w' : World} {v : Value} {l : List UInt8} {g : Nat} {row : Option Nat} (h : Bs w v l) (hu : UpdV g row w w') (hn : No8 w g) (hr : ∀ k, row = some k → No8 w k) : Bs w' v l := by
  obtain ⟨A, c, h1, h2, h3, h4⟩ := h
  refine ⟨A, c, h1, h2, h3, fun h0 => ?_⟩
  obtain ⟨b, o, rfl, hb, hc⟩ := h4 h0
  have hg : b ≠ g := by
    rintro rfl
    exact hn _ _ (hc 0 (by omega))
  have hw : row ≠ some b := fun e => hr b e _ _ (hc 0 (by omega))
  exact ⟨b, o, rfl, Nat.lt_of_lt_of_le hb hu.size, fun i hi => (World.cell?_of_block (w := w) (hu.block b hb hg hw)).trans (hc i hi)⟩
/-- what a kept Sum leaves as it was -/
structure KeepStep (g base : Nat) (w w' : World) : Prop where
  row : ∀ r cs, RowIs w r cs → r ≠ g → cs.all isSl = false → RowIs w' r cs
  bs : ∀ v l, Bs w v l → Bs w' v l
  below : ∀ b, b ≤ base → b ≤ g → Below b w w'
  size : w.heap.size ≤ w'.heap.size
theorem KeepStep.mk' {g base : Nat} {w w' : World} {v : Value} {ks : BL} {n : Int} (hm : Met w g n true v) (ho : OwnL w base v ks) (hb : base ≤ w.heap.size) (hu : UpdV g v.ownBlock w w') : KeepStep g base w w' := by
  obtain ⟨A, c, e, -⟩ := ho.slice
  refine ⟨fun r cs h hr hn => h.updV hu hr (ho.ne_row h hn), fun u l h => h.updV hu (hm.no8 (by rw [e]; intro b; simp)) (fun k hk => ho.no8 hk), fun b h1 h2 => ⟨hu.os, hu.tape, hu.output, hu.size, fun k hk => hu.block k (by omega) (by omega) (fun e => by have := (ho.lt e).1; omega)⟩, hu.size⟩
theorem metC_no (n : Int) (k : Bool) (all : Value) : (metC n k all).all isSl = false := by rw [metC_def]; simp [isSl]
theorem metK_no (n s : Int) (all : Value) : (#[.int .i64 n, .bool true, .int .i32 s, .int .u32 0, all] : Array Value).all isSl = false := by simp [isSl]
theorem key_no {D : List UInt8} (hD : D.length = 32) : (u8s D).all isSl = false := by
  cases D with
  | nil => simp at hD
  | cons a r => rw [u8s_def]; simp [isSl]
theorem OwnG.updL {T : TypeId} {s : Nat} {p : Value → Bool} {w w' : World} {base n g : Nat} {v : Value} {xs : List Value} (h : OwnG T s p w base v n xs) (hu : Upd g w w') (hne : v.ownBlock ≠ some g) : OwnG T s p w' base v n xs :=
  h.keep fun k hk _ hl => hu.block k hl (fun e => hne (by rw [hk, e]))
theorem Bs.setRow_ne {w : World} {A : Option Addr} {n c r : Nat} {l : List UInt8} {cs : Array Value} (h : Bs w (.slice A n c) l) (hf : 0 < l.length → ∃ b o, A = some ⟨b, o, none⟩ ∧ b ≠ r) : Bs (w.setRow r cs) (.slice A n c) l := by
  obtain ⟨A', c', h1, h2, h3, h4⟩ := h
  refine ⟨A', c', h1, h2, h3, fun h0 => ?_⟩
  obtain ⟨b, o, rfl, hb, hc⟩ := h4 h0
  obtain ⟨b2, o2, e, hne⟩ := hf h0
  injection h1 with e1 e2 e3
  rw [e] at e1
  injection e1 with e1
  injection e1 with e4 e5 e6
  rw [e4] at hne
  exact ⟨b, o, rfl, by simp [World.setRow]; exact hb, fun i hi => (World.cell?_of_block (w := w) (a := ⟨b, o + i, none⟩) (setRow_other w r b _ hne)).trans (hc i hi)⟩
/-- one slice of bytes appended to an own list -/
theorem wpList_appendL1 {w : World} {o : Oper} {a : Act} {ops : Array Oper} {rest : List Oper} {Q : Exit → Act → World → Prop} (hgd : o.guard = none) (sl x : Operand) (ho : o.op = .call { callee := .builtin .append, args := #[sl, x], argTypes := #[42, 42] })
    {base n b : Nat} {v u : Value} {vs : List Value} (hsv : a.eval sl = v) (hown : OwnG 27 1 isSl w base v n vs) (hx : a.eval x = .slice (some ⟨b, 0, none⟩) 1 1) (hc : w.cell? ⟨b, 0, none⟩ = some u) (hu : u.oneCell' = true) (hu2 : isSl u = true) (hb : n + 1 ≤ 1000000) (hbase : base ≤ w.heap.size)
    (hK : ∀ A' c' w', OwnG 27 1 isSl w' base (.slice A' (n + 1) c') (n + 1) (vs ++ [u]) → w.grownBy w' v.ownBlock → ((Value.slice A' (n + 1) c').ownBlock = v.ownBlock ∨ (Value.slice A' (n + 1) c').ownBlock = some w.heap.size) → wpList Tryd.prog ops Q rest (a.put o.dst (.slice A' (n + 1) c')) w') : wpList Tryd.prog ops Q (o :: rest) a w := by
  obtain ⟨i, hi1, hz, hs1, hb1⟩ := info_parts slInfo
  refine wpList_plain hgd fun _ hK' => ?_
  exact wp_appendG (p := isSl) (s := 1) Tryd.underlying42 hi1 hz hs1 hb1 (by simp [Value.cells]) (by omega) (by simp [Value.cells, isSl]) sl x ho hsv hown hx rfl (fun _ => ⟨b, 0, rfl, fun j y hy => by
    have hj : j = 0 := by have := (List.getElem?_eq_some_iff.1 hy).1; simpa using this
    subst hj
    have e : u = y := by simpa using hy
    rw [← e]; exact hc⟩) (fun y hy => by obtain rfl : y = u := by simpa using hy
                                         exact hu) (fun y hy => by obtain rfl : y = u := by simpa using hy
                                                                   exact hu2) rfl (by simp only [maxLen]; omega) (by omega) hbase (fun A' c' w' q1 q2 q3 => hK' _ _ (hK A' c' w' q1 q2 q3))
theorem OwnG.unique {T : TypeId} {s : Nat} {p : Value → Bool} {w : World} {base n : Nat} {v : Value} {xs ys : List Value} (h : OwnG T s p w base v n xs) (k : OwnG T s p w base v n ys) : xs = ys := by
  rcases h.2 with ⟨h1, h2⟩ | ⟨g, o, c, cur, hv, hg, hh, hn, hm, hcs, htk, _⟩
  · have e1 := h.1; have e2 := k.1
    subst h2
    rw [Nat.zero_mul] at e1 e2
    rw [List.eq_nil_of_length_eq_zero e1, List.eq_nil_of_length_eq_zero e2]
  · rcases k.2 with ⟨k1, _⟩ | ⟨g', o', c', cur', hv', hg', hh', hn', hm', hcs', htk', _⟩
    · rw [k1] at hv; cases hv
    · rw [hv] at hv'
      injection hv' with e1 e2 e3
      injection e1 with e1
      injection e1 with e4 e5 e6
      subst e4; subst e5
      rw [hh] at hh'
      injection hh' with hh'
      injection hh' with e7 e8 e9
      subst e7
      rw [← htk, ← htk']
/-- an own list none of whose elements lies in block r -/
def Kept (r : Nat) (w : World) (base : Nat) (v : Value) (ks : BL) : Prop :=
  ∃ vs, OwnG 27 1 isSl w base v ks.length vs ∧ BsAll w vs ks ∧ ∀ i u, vs[i]? = some u → 0 < (nthL ks i).length → u.ownBlock ≠ some r
theorem Kept.of {r : Nat} {w : World} {base : Nat} {v : Value} {ks : BL} (h : OwnL w base v ks) (hr : w.heap.size ≤ r) : Kept r w base v ks := by
  obtain ⟨vs, h1, h2⟩ := h
  refine ⟨vs, h1, h2, fun i u hu h0 e => ?_⟩
  have hi : i < ks.length := by
    have := (List.getElem?_eq_some_iff.1 hu).1
    rw [h2.len] at this; exact this
  obtain ⟨u', hu', hb⟩ := h2.get i hi
  rw [hu] at hu'
  obtain rfl := Option.some.inj hu'
  obtain ⟨A, c, rfl, _, _, hrd⟩ := hb
  obtain ⟨b, o, rfl, hlt, _⟩ := hrd h0
  have e2 : b = r := Option.some.inj e
  omega
theorem Kept.own {r : Nat} {w : World} {base : Nat} {v : Value} {ks : BL} (h : Kept r w base v ks) : OwnL w base v ks := by obtain ⟨vs, h1, h2, _⟩ := h; exact ⟨vs, h1, h2⟩
theorem Kept.step {r : Nat} {w w' : World} {base : Nat} {v : Value} {ks : BL} (h : Kept r w base v ks) (hb : Below w.heap.size w w') : Kept r w' base v ks := by
  obtain ⟨vs, h1, h2, h3⟩ := h
  exact ⟨vs, h1.step hb, h2.map fun _ _ h => h.step hb, h3⟩
theorem BsAll.off {w w' : World} {r : Nat} (hf : ∀ v l, Bs w v l → (0 < l.length → v.ownBlock ≠ some r) → Bs w' v l) : ∀ {vs : List Value} {ls : BL}, BsAll w vs ls → (∀ i u, vs[i]? = some u → 0 < (nthL ls i).length → u.ownBlock ≠ some r) → BsAll w' vs ls
  | [], [], _, _ => trivial
  | v :: vs, l :: ls, h, k => ⟨hf _ _ h.1 (fun h0 => k 0 v rfl (by rw [nthL_def]; exact h0)), h.2.off hf fun i u hu h0 => k (i + 1) u (by simpa using hu) (by rw [nthL_def] at h0 ⊢; exact h0)⟩
  | [], _ :: _, h, _ => h.elim
  | _ :: _, [], h, _ => h.elim
theorem Kept.setRow {r : Nat} {w : World} {base : Nat} {v : Value} {ks : BL} (h : Kept r w base v ks) (hne : v.ownBlock ≠ some r) (cs : Array Value) : OwnL (w.setRow r cs) base v ks := by
  obtain ⟨vs, h1, h2, h3⟩ := h
  refine ⟨vs, h1.keep fun k hk _ _ => setRow_other w r k _ (fun e => hne (by rw [hk, e])), h2.off (r := r) (fun u l hB hoff => ?_) h3⟩
  obtain ⟨A, c, rfl, q1, q2, q3⟩ := id hB
  exact hB.setRow_ne fun h0 => by
    obtain ⟨b, o, rfl, _, _⟩ := q3 h0
    exact ⟨b, o, rfl, fun e => hoff h0 (by rw [← e]; rfl)⟩
/-- another own list stays -/
def KeepOwn (g : Nat) (v : Value) (w w' : World) : Prop := ∀ rr b2 v2 l2, Kept rr w b2 v2 l2 → (∀ k, v2.ownBlock = some k → v.ownBlock ≠ some k ∧ k ≠ g) → Kept rr w' b2 v2 l2
theorem KeepOwn.own {g : Nat} {v : Value} {w w' : World} (h : KeepOwn g v w w') {b2 : Nat} {v2 : Value} {l2 : BL} (ho : OwnL w b2 v2 l2) (hd : ∀ k, v2.ownBlock = some k → v.ownBlock ≠ some k ∧ k ≠ g) : OwnL w' b2 v2 l2 := (h w.heap.size b2 v2 l2 (Kept.of ho (Nat.le_refl _)) hd).own
theorem Kept.upd {rr g : Nat} {w w' : World} {base : Nat} {v : Value} {ks : BL} (h : Kept rr w base v ks) (hu : Upd g w w') (hn : No8 w g) (hne : v.ownBlock ≠ some g) : Kept rr w' base v ks := by
  obtain ⟨vs, h1, h2, h3⟩ := h
  exact ⟨vs, h1.updL hu hne, h2.map fun _ _ h => h.upd hu hn, h3⟩
def KeepRes (g base : Nat) (n : Int) (v : Value) (ks : BL) (F : List UInt8) (w : World) (e : Ending) (w' : World) : Prop :=
  e = .returned (.agg (u8s (shaB F))) ∧ (∃ v', Met w' g (n + 1) true v' ∧ OwnL w' base v' (ks ++ [F]) ∧ (∀ r, r < w.heap.size → Kept r w base v ks → Kept r w' base v' (ks ++ [F])) ∧ ∀ k, v'.ownBlock = some k → v.ownBlock = some k ∨ w.heap.size ≤ k) ∧ KeepStep g base w w' ∧ KeepOwn g v w w'
set_option maxRecDepth 100000 in
set_option maxHeartbeats 1600000 in
theorem keep_any (g base : Nat) (n : Int) (v vl : Value) (ks ls : List (List UInt8)) (w : World) (hm : Met w g n true v) (hown : OwnL w base v ks) (hbase : base ≤ w.heap.size) (hkl : ks.length ≤ 1000) (hr : BsL w vl ls) (hl : ls.flatten.length ≤ 17592186044416)
    (he : ShaEnv w) (h1 : -4611686018427387904 ≤ n) (h2 : n ≤ 4611686018427387904) :
    Calls Tryd.prog 26 #[.pointer (some ⟨g, 0, none⟩), vl] w (KeepRes g base n v ks ls.flatten w) := by
  have hm00 := hm; have hown00 := hown
  obtain ⟨F, hF⟩ : ∃ F, F = ls.flatten := ⟨_, rfl⟩
  have hj := fun w h => join_any vl ls (by rw [sumLen_flat]; omega) w h
  rw [← hF] at hj hl ⊢
  have HJ := Lib.hid hj
  clear hF hj
  have hgl := hm.lt
  obtain ⟨A0, c0, rfl, -⟩ := hown.slice
  obtain ⟨vs, hown, hall⟩ := hown
  have HALL := Lib.hid hall
  have hownW := hown
  obtain ⟨nk, hnk⟩ : ∃ n, n = ks.length := ⟨_, rfl⟩
  have HNK := Lib.hid hnk
  rw [← hnk] at hm hown hm00 hkl hownW ⊢
  clear hnk hall
  go_enter_defers Tryd.func26, Tryd.ntmps26
  go_wp2_with fail
  have HB : Below w.heap.size w (w.alloc (.cells (u8s (zeros 32)) 33)) := (by repeat (first | with_reducible exact Below.refl _ _ | with_reducible assumption | refine Below.drew ?_ | refine below_drewN ?_ | refine Below.alloc ?_ (by first | omega | (simp; done) | (simp; omega)) _ | refine below_setRow ?_ (by omega) _ | refine Below.setCell ?_ (by first | omega | (simp; done) | (simp; omega)) _))
  refine (HJ.out _ (hr.step HB)).mono ?_
  rintro e w1 ⟨A1, k1, rfl, hown1, hb1⟩
  have hz0 : w.heap.size < (w.alloc (.cells (u8s (zeros 32)) 33)).heap.size := by simp
  have hfr : 0 < F.length → ∃ b o, A1 = some ⟨b, o, none⟩ ∧ w.heap.size < b := fun h0 => by
    obtain ⟨b, cap, hv, hbb, _⟩ := World.ownsRow.form hown1 h0
    injection hv with hA
    exact ⟨b, 0, hA, by omega⟩
  have HFR := Lib.hid hfr
  have hv1 : Bs w1 (.slice A1 F.length k1) F := Bs.of hown1.len.2 (by omega) hown1.rd
  clear hown1 hfr hz0
  have R0 : RowIs w1 w.heap.size (u8s (zeros 32)) := (RowIs.new _ _ _).step hb1
  replace HB := HB.trans (hb1.mono HB.size)
  replace hm := hm.step HB
  replace he := he.step HB
  replace hown := hown.step HB
  have hz1 := HB.size
  clear hb1
  go_wp2_with fail
  refine (add_any g n 1 h1 h2 (by omega) (by omega) w1 hm.c0 (RowIs.fz hm 0)).mono ?_
  rintro e w2' ⟨rfl, rfl⟩
  have hu : Upd g w1 (w1.setCell ⟨g, 0, none⟩ (.int .i64 (n + 1))) := (Upd.refl g w1).put 0 _
  obtain ⟨w2, hw2⟩ : ∃ w2, w2 = w1.setCell ⟨g, 0, none⟩ (.int .i64 (n + 1)) := ⟨_, rfl⟩
  have hv2 := hv1.upd hu (hm.no8 (by intro b; simp))
  have he2 := he.upd hm hu
  replace R0 := R0.upd hu (by omega)
  replace hown := hown.updL hu (hown.ne_row hm (metC_no _ _ _))
  have hm2 := hm.setN (n + 1)
  have hz2 := Nat.le_trans hz1 hu.size
  rw [← hw2] at hu hv2 he2 R0 hm2 hown hz2 ⊢
  clear hw2 he hv1 hm
  have c1 := hm2.c1
  obtain ⟨q, hq⟩ : ∃ q, q = F.length := ⟨_, rfl⟩
  rw [← hq] at hv2 hl ⊢
  have HQ := Lib.hid hq
  clear hq
  go_wp2_with fail
  refine (lock_free muLib ⟨g, 2, none⟩ _ hm2.c2 (RowIs.fz hm2 2)).mono ?_
  rintro e w3' ⟨rfl, rfl⟩
  have hu3 : Upd g w2 (w2.setCell ⟨g, 2, none⟩ (.int .i32 1)) := (Upd.refl g w2).put 2 _
  have hm3 : MetK (w2.setCell ⟨g, 2, none⟩ (.int .i32 1)) g (n + 1) 1 (.slice A0 nk c0) := by
    have := RowIs.put hm2 2 (.int .i32 1)
    unfold MetK; rw [metC_def] at this
    simpa using this
  replace hown := hown.updL hu3 (hown.ne_row hm2 (metC_no _ _ _))
  obtain ⟨w3, hw3⟩ : ∃ w3, w3 = w2.setCell ⟨g, 2, none⟩ (.int .i32 1) := ⟨_, rfl⟩
  have hv3 := hv2.upd hu3 (hm2.no8 (by intro b; simp))
  have he3 := he2.upd hm2 hu3
  replace R0 := R0.upd hu3 (by omega)
  have hz3 := Nat.le_trans hz2 hu3.size
  rw [← hw3] at hu3 hv3 he3 R0 hm3 hown hz3 ⊢
  clear hw3 hm2 he2 hv2
  have c4 := hm3.c4
  have hq1 : Below w3.heap.size w3 (w3.alloc (.cells #[.slice A1 q k1] 27)) := (by repeat (first | with_reducible exact Below.refl _ _ | with_reducible assumption | refine Below.drew ?_ | refine below_drewN ?_ | refine Below.alloc ?_ (by first | omega | (simp; done) | (simp; omega)) _ | refine below_setRow ?_ (by omega) _ | refine Below.setCell ?_ (by first | omega | (simp; done) | (simp; omega)) _))
  have hm4 := RowIs.step hm3 hq1
  have hf4 := RowIs.fz hm4 4
  have hown4 := hown.step hq1
  have hv4 := hv3.step hq1
  have he4 := he3.step hq1
  have R4 := R0.step hq1
  have hne4 := hown4.ne_row hm4 (metK_no _ _ _)
  have hneR := hown4.ne_row R4 (key_no (zeros_length 32))
  have hbase4 : base ≤ (w3.alloc (.cells #[.slice A1 q k1] 27)).heap.size := by have := hq1.size; omega
  go_wp2_with (at_builtin; refine wpList_appendL1 rfl (.tmp 31) (.tmp 33) rfl rfl hown4 (b := w3.heap.size) rfl (u := .slice A1 q k1) (by go_simp) rfl rfl (by omega) hbase4 ?_; intro A5 c5 w5 own5 gr5 ob5; have hm5 := RowIs.grown hm4 gr5 hne4; have hc5 := MetK.c4 (n := n + 1) (s := 1) hm5; have hf5 := RowIs.fz hm5 4)
  have hv5 := hv4.grown gr5 (fun k hk => hown4.no8 (fun _ => rfl) hk)
  have R5 := R4.grown gr5 hneR
  have hV : UpdV g (Value.slice A0 nk c0).ownBlock w w5 := UpdV.of (((((Upd.of HB).trans hu).trans hu3).then hq1)) gr5
  have he5 : ShaEnv w5 := ⟨he4.rounds.grown gr5 (hown4.ne_row he4.rounds (by rw [u32s_def]; simp [roundsL, isSl])), he4.start.grown gr5 (hown4.ne_row he4.start (by rw [u32s_def]; simp [startS, isSl]))⟩
  have hu5 : Upd g w5 (w5.setCell ⟨g, 4, none⟩ (.slice A5 (nk + 1) c5)) := (Upd.refl g w5).put 4 _
  have hm6 : MetK (w5.setCell ⟨g, 4, none⟩ (.slice A5 (nk + 1) c5)) g (n + 1) 1 (.slice A5 (nk + 1) c5) := by
    have := RowIs.put hm5 4 (.slice A5 (nk + 1) c5)
    unfold MetK
    simpa using this
  have n85 : No8 w5 g := MetK.no8 hm5 (by intro b; simp)
  have hv6 := hv5.upd hu5 n85
  have own6 := own5.updL hu5 (own5.ne_row hm5 (metK_no _ _ _))
  have he6 := MetK.env hm5 he5 hu5
  replace R5 := R5.upd hu5 (by omega)
  replace hV := hV.upd hu5
  obtain ⟨w6, hw6⟩ : ∃ w6, w6 = w5.setCell ⟨g, 4, none⟩ (.slice A5 (nk + 1) c5) := ⟨_, rfl⟩
  rw [← hw6] at hm6 hv6 he6 R5 own6 hV ⊢
  clear hw6 hu5 hm5 hm4 hq1 hf4 hf5 c4 hv3 he3 hown4 hown hv4 he4 R4 hne4 hneR gr5 own5 hu hu3 hm3 R0 he5 hv5
  refine (sum_any _ F w6 hv6 (by rw [← HQ.out]; omega) he6.rounds he6.start).mono ?_
  rintro e w7 ⟨rfl, hb7⟩
  have R0 := R5.step hb7
  have hm7 : MetK w7 g (n + 1) 1 (.slice A5 (nk + 1) c5) := RowIs.step hm6 hb7
  have own7 := own6.step hb7
  replace hV := hV.upd (Upd.of hb7)
  have own7r := own7.ne_row R0 (key_no (zeros_length 32))
  have R0h := R0.has; have R0r := R0.row; have R0l := R0.lt
  have hkl := shaB_length F
  obtain ⟨D, hD⟩ : ∃ D, D = shaB F := ⟨_, rfl⟩
  have HD := Lib.hid hD
  rw [← hD] at hkl ⊢
  clear hD R5 own6 he6 hm6
  go_wp2_with fail
  have hgw : g ≠ w.heap.size := by omega
  have hm8 : MetK (w7.setRow w.heap.size (u8s D)) g (n + 1) 1 (.slice A5 (nk + 1) c5) := RowIs.set_ne hm7 hgw _
  have own8 : OwnG 27 1 isSl (w7.setRow w.heap.size (u8s D)) base (.slice A5 (nk + 1) c5) (nk + 1) (vs ++ [.slice A1 q k1]) := own7.keep fun k hk _ _ => setRow_other w7 w.heap.size k _ (fun e => own7r (by rw [hk, e]))
  have hv8 := (hv6.step hb7).setRow_ne (r := w.heap.size) (cs := u8s D) (fun h0 => by obtain ⟨b, o, e, hlt⟩ := HFR.out h0; exact ⟨b, o, e, by omega⟩)
  have n88 := MetK.no8 hm8 (by intro b; simp)
  have hv9 := hv8.upd ((Upd.refl g _).put 2 (.int .i32 0)) n88
  have own9 := own8.updL ((Upd.refl g _).put 2 (.int .i32 0)) (own8.ne_row hm8 (metK_no _ _ _))
  have R9 : RowIs ((w7.setRow w.heap.size (u8s D)).setCell ⟨g, 2, none⟩ (.int .i32 0)) w.heap.size (u8s D) := (R0.set (u8s D)).put_ne (a := ⟨g, 2, none⟩) (Ne.symm hgw) _
  replace hV := (hV.setRow (Nat.le_refl _) (u8s D)).upd ((Upd.refl g _).put 2 (.int .i32 0))
  refine leaves_cons (f := 78) (args := #[.pointer (some ⟨g, 2, none⟩)]) (by simp) (by simp [go_sem]) ?_
  refine (unlock_deferred muLib ⟨g, 2, none⟩ .returning _ hm8.c2 (RowIs.fz hm8 2)).mono ?_
  rintro e u' w'' ⟨rfl, rfl, rfl⟩
  obtain ⟨t, ht⟩ := R9.row.heap
  rw [R9.has] at ht
  have hm9 : Met ((w7.setRow w.heap.size (u8s D)).setCell ⟨g, 2, none⟩ (.int .i32 0)) g (n + 1) true (.slice A5 (nk + 1) c5) := by
    have := RowIs.put hm8 2 (.int .i32 0)
    unfold Met; rw [metC_def]
    simpa using this
  have hK := KeepStep.mk' hm00 (by rw [HNK.out]; exact hown00) hbase hV
  have hA9 : BsAll _ (vs ++ [.slice A1 q k1]) (ks ++ [F]) := (HALL.out.map hK.bs).append ⟨hv9, trivial⟩
  have hL9 : (ks ++ [F]).length = nk + 1 := by rw [List.length_append, ← HNK.out]; rfl
  have hlen := hA9.len
  refine ⟨_, results_cell_row rfl _ _ w.heap.size t (u8s D) (0, 0) _ rfl ht Tryd.underlying33 rfl (by rw [u8s_size, hkl]; kernel_rfl), by rw [HD.out], ⟨_, hm9, ⟨vs ++ [.slice A1 q k1], by rw [hL9]; exact own9, hA9⟩, fun r hr hkp => ⟨vs ++ [.slice A1 q k1], by rw [hL9]; exact own9, hA9, fun i u hu h0 => ?_⟩, fun k hk => ?_⟩, hK, fun rr b2 v2 l2 h2 hd => ?_⟩
  rotate_left
  · rcases ob5 with e | e
    · exact .inl (e.symm.trans hk)
    · rw [e] at hk
      have h9 := Option.some.inj hk
      simp at h9
      exact .inr (by omega)
  · obtain ⟨us, u1, u2, u3⟩ := h2
    exact ⟨us, u1.keep fun k hk _ hl => hV.block k hl (hd k hk).2 (hd k hk).1, u2.map hK.bs, u3⟩
  obtain ⟨vs2, g2, a2, off2⟩ := hkp
  obtain ⟨vs0, g0, a0⟩ := hown00
  have hl0 := a0.len
  obtain rfl : vs2 = vs := g2.unique (by rw [← HNK.out]; exact hownW)
  rcases Nat.lt_or_ge i vs2.length with hi | hi
  · rw [List.getElem?_append_left hi] at hu
    refine off2 i u hu ?_
    have e : nthL (ks ++ [F]) i = nthL ks i := by rw [nthL_def, nthL_def, List.getD_eq_getElem?_getD, List.getD_eq_getElem?_getD, List.getElem?_append_left (by rw [← a2.len]; exact hi)]
    rw [e] at h0; exact h0
  · have hlt := (List.getElem?_eq_some_iff.1 hu).1
    rw [List.length_append] at hlt
    have hi2 : i = vs2.length := by simp at hlt; omega
    subst hi2
    have e : nthL (ks ++ [F]) vs2.length = F := by rw [a2.len, nthL_def, List.getD_eq_getElem?_getD, List.getElem?_append_right (Nat.le_refl _)]; simp
    rw [e] at h0
    obtain ⟨b, o, eA, hlt2⟩ := HFR.out h0
    have eu : u = .slice A1 q k1 := by simpa using hu.symm
    rw [eu, eA]
    intro e3
    have : b = r := Option.some.inj e3
    omega
end
section
open Go.RowKit Go.MuLone
def InRes (g base : Nat) (n : Int) (v : Value) (ks : BL) (w : World) (e : Ending) (w' : World) : Prop :=
  ∃ u, e = .returned u ∧ Met w' g n true v ∧ OwnL w' base v ks ∧ OwnL w' w.heap.size u ks ∧ Upd g w w'
set_option maxRecDepth 100000 in
set_option maxHeartbeats 1600000 in
theorem inputs_any (g base : Nat) (n : Int) (v : Value) (ks : List (List UInt8)) (w : World) (hm : Met w g n true v) (hown : OwnL w base v ks) (hkl : ks.length ≤ 1000) :
    Calls Tryd.prog 37 #[.pointer (some ⟨g, 0, none⟩)] w (InRes g base n v ks w) := by
  obtain ⟨A0, c0, rfl, -⟩ := hown.slice
  obtain ⟨nk, hnk⟩ : ∃ n, n = ks.length := ⟨_, rfl⟩
  have HNK := Lib.hid hnk
  rw [← hnk] at hm hown hkl ⊢
  clear hnk
  have hgl := RowIs.lt hm
  go_enter_defers Tryd.func37, Tryd.ntmps37
  go_wp2_with fail
  refine (lock_free muLib ⟨g, 2, none⟩ _ hm.c2 (RowIs.fz hm 2)).mono ?_
  rintro e w3' ⟨rfl, rfl⟩
  have hu3 : Upd g w (w.setCell ⟨g, 2, none⟩ (.int .i32 1)) := (Upd.refl g w).put 2 _
  have hm3 : MetK (w.setCell ⟨g, 2, none⟩ (.int .i32 1)) g n 1 (.slice A0 nk c0) := by
    have := RowIs.put hm 2 (.int .i32 1)
    unfold MetK; rw [metC_def] at this
    simpa using this
  replace hown := hown.upd hu3 (hm.no8 (by intro b; simp)) (hown.ne_row hm (metC_no _ _ _))
  have hz3 : (w.setCell ⟨g, 2, none⟩ (.int .i32 1)).heap.size = w.heap.size := by simp [World.setCell]
  obtain ⟨w3, hw3⟩ : ∃ w3, w3 = w.setCell ⟨g, 2, none⟩ (.int .i32 1) := ⟨_, rfl⟩
  rw [← hw3] at hu3 hm3 hown hz3 ⊢
  clear hw3 hm
  have c4 := hm3.c4
  have hbl := hown.bsl (by rw [← HNK.out]; omega)
  have HBL := Lib.hid hbl
  have HOWN := Lib.hid hown
  clear hown hbl
  go_wp2_with fail
  go_loopw [20, 3] (fun i u wr => ∃ k : Nat, i = .int .i64 k ∧ k ≤ nk ∧ OwnL wr w3.heap.size u (ks.take k) ∧ Below w3.heap.size w3 wr) (fun i _ _ => nk - (intOf i).toNat)
  case atStart => exact ⟨0, rfl, by omega, OwnL.nil _ _, Below.refl _ _⟩
  case round =>
    obtain ⟨k, rfl, hk, own, hb⟩ := hrel
    have hsz := hb.size
    obtain ⟨Au, cu, rfl, -⟩ := own.slice
    have hlt0 : (ks.take k).length = k := by rw [List.length_take, ← HNK.out]; omega
    rw [hlt0] at own ⊢
    by_cases hlt : k < nk
    · obtain ⟨A', c', e', -, -, hrd⟩ := HBL.out
      injection e' with e1 e2 e3
      obtain ⟨gl, ol, e4, hgl2, hat⟩ := hrd (by rw [← HNK.out]; omega)
      obtain ⟨x, hx, hbx⟩ := hat k (by rw [← HNK.out]; exact hlt)
      rw [← e1] at e4
      subst e4
      clear e1 e2 e3 hrd hat
      have f0 := (hb.cell (p := ⟨gl, ol + k, none⟩) hgl2).trans hx
      have hbx' := hbx.step hb
      have hk0 : (0 : Int) ≤ (k : Int) := by omega
      have hk1 : (k : Int) < nk := by omega
      have htk : ks.take (k + 1) = ks.take k ++ [nthL ks k] := by
        rw [List.take_add_one, nthL_def]; simp [List.getD, show k < ks.length by rw [← HNK.out]; exact hlt]
      have HTK := Lib.hid htk
      have hwk : IntKind.i64.wrap ((k : Int) + 1) = ((k + 1 : Nat) : Int) := by rw [IntKind.wrap_i64]; omega
      clear hx hbx htk
      go_wp2_with fail
      refine (clone_bs hbx').mono ?_
      rintro e wa ⟨va, rfl, hva, hba⟩
      replace own := own.step hba
      replace hb := hb.trans (hba.mono hsz)
      obtain ⟨Av, cv, rfl, -, -, -⟩ := id hva
      obtain ⟨lv, hlv⟩ : ∃ l, l = (nthL ks k).length := ⟨_, rfl⟩
      rw [← hlv] at hva ⊢
      clear hlv hba f0 hbx'
      have hq : Below wa.heap.size wa (wa.alloc (.cells #[.slice Av lv cv] 27)) := (by repeat (first | with_reducible exact Below.refl _ _ | with_reducible assumption | refine Below.drew ?_ | refine below_drewN ?_ | refine Below.alloc ?_ (by first | omega | (simp; done) | (simp; omega)) _ | refine below_setRow ?_ (by omega) _ | refine Below.setCell ?_ (by first | omega | (simp; done) | (simp; omega)) _))
      have hms := BsL.lit1 (w := wa) 27 rfl hva
      replace own := own.step hq
      have hb2 := hb.trans (hq.mono hb.size)
      have hsz2 := hb2.size
      go_wp2_with (at_builtin; refine wpList_appendL rfl (.tmp 24) (.tmp 27) rfl (N := k + 1) rfl own rfl hms (by rw [hlt0]; rfl) (by omega) hsz2 ?_; intro A5 c5 w5 own5 gr5 ob5)
      exact ⟨⟨k + 1, by go_num, by omega, by rw [HTK.out]; exact own5, hb2.grown gr5 hsz2 (fun j hj => (own.lt hj).1)⟩, by simp [intOf]; omega⟩
    · have ek : k = nk := by omega
      subst ek
      have hne : ¬ ((k : Int) < k) := by omega
      have htk : ks.take k = ks := by rw [HNK.out, List.take_length]
      rw [htk] at own
      have hm4 : MetK _ g n 1 _ := RowIs.step hm3 hb
      have hown4 := HOWN.out.step hb
      go_wp2_with fail
      refine leaves_cons (f := 78) (args := #[.pointer (some ⟨g, 2, none⟩)]) (by simp) (by simp [go_sem]) ?_
      refine (unlock_deferred muLib ⟨g, 2, none⟩ .returning _ hm4.c2 (RowIs.fz hm4 2)).mono ?_
      rintro e u' w'' ⟨rfl, rfl, rfl⟩
      have hu4 : Upd g wr (wr.setCell ⟨g, 2, none⟩ (.int .i32 0)) := (Upd.refl g wr).put 2 _
      have hm9 : Met (wr.setCell ⟨g, 2, none⟩ (.int .i32 0)) g n true (.slice A0 k c0) := by
        have := RowIs.put hm4 2 (.int .i32 0)
        unfold Met; rw [metC_def]
        simpa using this
      have n8 := MetK.no8 hm4 (by intro b; simp)
      have o1 := hown4.upd hu4 n8 (hown4.ne_row hm4 (metK_no _ _ _))
      have o2 := own.upd hu4 n8 (own.ne_row hm4 (metK_no _ _ _))
      rw [hz3] at o2
      exact ⟨.slice Au k cu, (results_tmp rfl _ _ _).trans rfl, _, rfl, hm9, o1, o2, (hu3.then hb).trans hu4⟩
set_option maxRecDepth 100000 in
theorem count_any (g : Nat) (n : Int) (k : Bool) (v : Value) (w : World) (hm : Met w g n k v) :
    Calls Tryd.prog 36 #[.pointer (some ⟨g, 0, none⟩)] w fun e w' => e = .returned (.int .i64 n) ∧ w' = w := by
  have hc := hm.c0
  clear hm
  go_enter Tryd.func36, Tryd.ntmps36
  go_wp2_with fail
  refine (load_any g n w hc).mono ?_
  rintro e w1 ⟨rfl, rfl⟩
  go_wp2_with fail
  go_ret
  exact ⟨rfl, rfl⟩
end
section
open Go.RowKit Go.MuLone
def MetQ (w : World) (g : Nat) (n : Int) (kp : Bool) (s : Int) (all : Value) : Prop := RowIs w g #[.int .i64 n, .bool kp, .int .i32 s, .int .u32 0, all]
theorem MetQ.c4 {w : World} {g : Nat} {n s : Int} {kp : Bool} {all : Value} (h : MetQ w g n kp s all) : w.cell? ⟨g, 4, none⟩ = some all := by
  obtain ⟨t, ht⟩ := RowIs.row h |>.heap
  rw [RowIs.has h] at ht
  rw [cell_of_row _ _ _ _ t (0, 0) ht]; rfl
theorem MetQ.c2 {w : World} {g : Nat} {n s : Int} {kp : Bool} {all : Value} (h : MetQ w g n kp s all) : w.cell? ⟨g, 2, none⟩ = some (.int .i32 s) := by
  obtain ⟨t, ht⟩ := RowIs.row h |>.heap
  rw [RowIs.has h] at ht
  rw [cell_of_row _ _ _ _ t (0, 0) ht]; rfl
theorem MetQ.no8 {w : World} {g : Nat} {n s : Int} {kp : Bool} {all : Value} (h : MetQ w g n kp s all) (hall : ∀ b, all ≠ .int .u8 b) : No8 w g := by
  refine no8_row h ?_
  cases all <;> simp_all
theorem metQ_no (n s : Int) (kp : Bool) (all : Value) : (#[.int .i64 n, .bool kp, .int .i32 s, .int .u32 0, all] : Array Value).all isSl = false := by simp [isSl]
def InQ (g base : Nat) (n : Int) (kp : Bool) (v : Value) (ks : BL) (w : World) (e : Ending) (w' : World) : Prop :=
  ∃ u, e = .returned u ∧ Met w' g n kp v ∧ OwnL w' base v ks ∧ OwnL w' w.heap.size u ks ∧ Upd g w w'
set_option maxRecDepth 100000 in
set_option maxHeartbeats 1600000 in
theorem inputsQ_any (g base : Nat) (n : Int) (kp : Bool) (v : Value) (ks : List (List UInt8)) (w : World) (hm : Met w g n kp v) (hown : OwnL w base v ks) (hkl : ks.length ≤ 1000) :
    Calls Tryd.prog 37 #[.pointer (some ⟨g, 0, none⟩)] w (InQ g base n kp v ks w) := by
  obtain ⟨A0, c0, rfl, -⟩ := hown.slice
  obtain ⟨nk, hnk⟩ : ∃ n, n = ks.length := ⟨_, rfl⟩
  have HNK := Lib.hid hnk
  rw [← hnk] at hm hown hkl ⊢
  clear hnk
  have hgl := RowIs.lt hm
  go_enter_defers Tryd.func37, Tryd.ntmps37
  go_wp2_with fail
  refine (lock_free muLib ⟨g, 2, none⟩ _ hm.c2 (RowIs.fz hm 2)).mono ?_
  rintro e w3' ⟨rfl, rfl⟩
  have hu3 : Upd g w (w.setCell ⟨g, 2, none⟩ (.int .i32 1)) := (Upd.refl g w).put 2 _
  have hm3 : MetQ (w.setCell ⟨g, 2, none⟩ (.int .i32 1)) g n kp 1 (.slice A0 nk c0) := by
    have := RowIs.put hm 2 (.int .i32 1)
    unfold MetQ; rw [metC_def] at this
    simpa using this
  replace hown := hown.upd hu3 (hm.no8 (by intro b; simp)) (hown.ne_row hm (metC_no _ _ _))
  have hz3 : (w.setCell ⟨g, 2, none⟩ (.int .i32 1)).heap.size = w.heap.size := by simp [World.setCell]
  obtain ⟨w3, hw3⟩ : ∃ w3, w3 = w.setCell ⟨g, 2, none⟩ (.int .i32 1) := ⟨_, rfl⟩
  rw [← hw3] at hu3 hm3 hown hz3 ⊢
  clear hw3 hm
  have c4 := hm3.c4
  have hbl := hown.bsl (by rw [← HNK.out]; omega)
  have HBL := Lib.hid hbl
  have HOWN := Lib.hid hown
  clear hown hbl
  go_wp2_with fail
  go_loopw [20, 3] (fun i u wr => ∃ k : Nat, i = .int .i64 k ∧ k ≤ nk ∧ OwnL wr w3.heap.size u (ks.take k) ∧ Below w3.heap.size w3 wr) (fun i _ _ => nk - (intOf i).toNat)
  case atStart => exact ⟨0, rfl, by omega, OwnL.nil _ _, Below.refl _ _⟩
  case round =>
    obtain ⟨k, rfl, hk, own, hb⟩ := hrel
    have hsz := hb.size
    obtain ⟨Au, cu, rfl, -⟩ := own.slice
    have hlt0 : (ks.take k).length = k := by rw [List.length_take, ← HNK.out]; omega
    rw [hlt0] at own ⊢
    by_cases hlt : k < nk
    · obtain ⟨A', c', e', -, -, hrd⟩ := HBL.out
      injection e' with e1 e2 e3
      obtain ⟨gl, ol, e4, hgl2, hat⟩ := hrd (by rw [← HNK.out]; omega)
      obtain ⟨x, hx, hbx⟩ := hat k (by rw [← HNK.out]; exact hlt)
      rw [← e1] at e4
      subst e4
      clear e1 e2 e3 hrd hat
      have f0 := (hb.cell (p := ⟨gl, ol + k, none⟩) hgl2).trans hx
      have hbx' := hbx.step hb
      have hk0 : (0 : Int) ≤ (k : Int) := by omega
      have hk1 : (k : Int) < nk := by omega
      have htk : ks.take (k + 1) = ks.take k ++ [nthL ks k] := by
        rw [List.take_add_one, nthL_def]; simp [List.getD, show k < ks.length by rw [← HNK.out]; exact hlt]
      have HTK := Lib.hid htk
      have hwk : IntKind.i64.wrap ((k : Int) + 1) = ((k + 1 : Nat) : Int) := by rw [IntKind.wrap_i64]; omega
      clear hx hbx htk
      go_wp2_with fail
      refine (clone_bs hbx').mono ?_
      rintro e wa ⟨va, rfl, hva, hba⟩
      replace own := own.step hba
      replace hb := hb.trans (hba.mono hsz)
      obtain ⟨Av, cv, rfl, -, -, -⟩ := id hva
      obtain ⟨lv, hlv⟩ : ∃ l, l = (nthL ks k).length := ⟨_, rfl⟩
      rw [← hlv] at hva ⊢
      clear hlv hba f0 hbx'
      have hq : Below wa.heap.size wa (wa.alloc (.cells #[.slice Av lv cv] 27)) := (by repeat (first | with_reducible exact Below.refl _ _ | with_reducible assumption | refine Below.drew ?_ | refine below_drewN ?_ | refine Below.alloc ?_ (by first | omega | (simp; done) | (simp; omega)) _ | refine below_setRow ?_ (by omega) _ | refine Below.setCell ?_ (by first | omega | (simp; done) | (simp; omega)) _))
      have hms := BsL.lit1 (w := wa) 27 rfl hva
      replace own := own.step hq
      have hb2 := hb.trans (hq.mono hb.size)
      have hsz2 := hb2.size
      go_wp2_with (at_builtin; refine wpList_appendL rfl (.tmp 24) (.tmp 27) rfl (N := k + 1) rfl own rfl hms (by rw [hlt0]; rfl) (by omega) hsz2 ?_; intro A5 c5 w5 own5 gr5 ob5)
      exact ⟨⟨k + 1, by go_num, by omega, by rw [HTK.out]; exact own5, hb2.grown gr5 hsz2 (fun j hj => (own.lt hj).1)⟩, by simp [intOf]; omega⟩
    · have ek : k = nk := by omega
      subst ek
      have hne : ¬ ((k : Int) < k) := by omega
      have htk : ks.take k = ks := by rw [HNK.out, List.take_length]
      rw [htk] at own
      have hm4 : MetQ _ g n kp 1 _ := RowIs.step hm3 hb
      have hown4 := HOWN.out.step hb
      go_wp2_with fail
      refine leaves_cons (f := 78) (args := #[.pointer (some ⟨g, 2, none⟩)]) (by simp) (by simp [go_sem]) ?_
      refine (unlock_deferred muLib ⟨g, 2, none⟩ .returning _ hm4.c2 (RowIs.fz hm4 2)).mono ?_
      rintro e u' w'' ⟨rfl, rfl, rfl⟩
      have hu4 : Upd g wr (wr.setCell ⟨g, 2, none⟩ (.int .i32 0)) := (Upd.refl g wr).put 2 _
      have hm9 : Met (wr.setCell ⟨g, 2, none⟩ (.int .i32 0)) g n kp (.slice A0 k c0) := by
        have := RowIs.put hm4 2 (.int .i32 0)
        unfold Met; rw [metC_def]
        simpa using this
      have n8 := MetQ.no8 hm4 (by intro b; simp)
      have o1 := hown4.upd hu4 n8 (hown4.ne_row hm4 (metQ_no _ _ _ _))
      have o2 := own.upd hu4 n8 (own.ne_row hm4 (metQ_no _ _ _ _))
      rw [hz3] at o2
      exact ⟨.slice Au k cu, (results_tmp rfl _ _ _).trans rfl, _, rfl, hm9, o1, o2, (hu3.then hb).trans hu4⟩
/-- what a meter, keeping or not, has kept -/
def kq (kp : Bool) (ks : BL) : BL := if kp then ks else []
theorem Kept.nil {r : Nat} {w : World} {base : Nat} {v : Value} (h : OwnL w base v []) : Kept r w base v [] := by
  obtain ⟨vs, h1, h2⟩ := h
  refine ⟨vs, h1, h2, fun i u hu => ?_⟩
  have := (List.getElem?_eq_some_iff.1 hu).1
  rw [h2.len] at this
  simp at this
def SumQ (g base : Nat) (n : Int) (kp : Bool) (v : Value) (ks : BL) (F : List UInt8) (w : World) (e : Ending) (w' : World) : Prop :=
  e = .returned (.agg (u8s (shaB F))) ∧ (∃ v', Met w' g (n + 1) kp v' ∧ OwnL w' base v' (kq kp (ks ++ [F])) ∧ (∀ r, r < w.heap.size → Kept r w base v (kq kp ks) → Kept r w' base v' (kq kp (ks ++ [F]))) ∧ ∀ k, v'.ownBlock = some k → v.ownBlock = some k ∨ w.heap.size ≤ k) ∧ KeepStep g base w w' ∧ KeepOwn g v w w'
theorem sumQ_any (g base : Nat) (n : Int) (kp : Bool) (v vl : Value) (ks ls : List (List UInt8)) (w : World) (hm : Met w g n kp v) (hown : OwnL w base v (kq kp ks)) (hbase : base ≤ w.heap.size) (hkl : ks.length ≤ 1000) (hr : BsL w vl ls) (hl : ls.flatten.length ≤ 17592186044416)
    (he : ShaEnv w) (h1 : -4611686018427387904 ≤ n) (h2 : n ≤ 4611686018427387904) :
    Calls Tryd.prog 26 #[.pointer (some ⟨g, 0, none⟩), vl] w (SumQ g base n kp v ks ls.flatten w) := by
  cases kp with
  | true => exact (keep_any g base n v vl ks ls w hm hown hbase hkl hr hl he h1 h2).mono fun _ _ ⟨a, ⟨v', b, c, kk, ob⟩, d, ko⟩ => ⟨a, ⟨v', b, c, kk, ob⟩, d, ko⟩
  | false =>
    obtain ⟨A, c, e0, _⟩ := hown.slice
    refine (meterSum_any g n v vl ls w hm (by rw [e0]; intro b; simp) hr hl he h1 h2).mono fun e w' h => ?_
    have hres := h
    unfold SumRes at hres
    obtain ⟨a, hm', hu⟩ := hres
    have n8 := hm.no8 (by rw [e0]; intro b; simp)
    have ow' := hown.upd hu n8 (hown.ne_row hm (metC_no _ _ _))
    refine ⟨a, ⟨v, hm', ow', fun r _ _ => Kept.nil ow', fun k hk => .inl hk⟩, ⟨fun r cs h hr _ => h.upd hu hr, fun u l h => h.upd hu n8, fun b q1 q2 => ⟨hu.os, hu.tape, hu.output, hu.size, fun k hk => hu.block k (by omega) (by omega)⟩, hu.size⟩, fun rr b2 v2 l2 h2 hd => h2.upd hu n8 (fun e => (hd _ e).2 rfl)⟩
set_option maxRecDepth 100000 in
theorem countNil_any (w : World) : Calls Tryd.prog 36 #[.pointer none] w fun e w' => e = .returned (.int .i64 0) ∧ w' = w := by
  go_enter Tryd.func36, Tryd.ntmps36
  go_wp2_with fail
  go_ret
  exact ⟨rfl, rfl⟩
set_option maxRecDepth 100000 in
theorem inputsNil_any (w : World) : Calls Tryd.prog 37 #[.pointer none] w fun e w' => e = .returned (.slice none 0 0) ∧ w' = w := by
  go_enter Tryd.func37, Tryd.ntmps37
  go_wp2_with fail
  go_ret
  exact ⟨rfl, rfl⟩
set_option maxRecDepth 100000 in
theorem alikeNil_any (w : World) : Calls Tryd.prog 38 #[.pointer none] w fun e w' => e = .returned (.tuple #[.slice none 0 0, .slice none 0 0, .bool false]) ∧ Below w.heap.size w w' := by
  have hmk : (Instr.makeMap 139 none).run Tryd.prog w = .ok (.map (some w.heap.size)) (w.alloc (.map #[] 0)) := rfl
  have hq : Below w.heap.size w (w.alloc (.map #[] 0)) := (by repeat (first | with_reducible exact Below.refl _ _ | with_reducible assumption | refine Below.drew ?_ | refine below_drewN ?_ | refine Below.alloc ?_ (by first | omega | (simp; done) | (simp; omega)) _ | refine below_setRow ?_ (by omega) _ | refine Below.setCell ?_ (by first | omega | (simp; done) | (simp; omega)) _))
  go_enter Tryd.func38, Tryd.ntmps38
  go_wp2_with fail
  refine (inputsNil_any _).mono ?_
  rintro e w1 ⟨rfl, rfl⟩
  go_wp2_with fail
  refine wp_loop_rounds 1 ?_
  rw [rounds_succ]
  go_wp2_with fail
  refine bodyPost_ret (results_tmp3 rfl _ _ _) rfl ?_
  exact ⟨rfl, hq⟩
end
section
open Go.RowKit
theorem run_check8a (em : Bool) (d : Nat) (z : Int) (w : World) : (Instr.checkKey em (d + 1) 5 (.int .u8 z)).run Tryd.prog w = .ok () w := by
  simp [Instr.checkKey, run_underlying Tryd.underlying5]
theorem run_check8d (em : Bool) (d : Nat) (h : List UInt8) (hh : h.length = 32) (w : World) : (Instr.checkKey em (d + 1 + 1) 33 (.agg (u8s h))).run Tryd.prog w = .ok () w := by
  obtain ⟨i, hi⟩ := Option.isSome_iff_exists.1 (show (Tryd.prog.info? 5).isSome = true by kernel_rfl)
  have hs : Tryd.prog.cellsOf 5 = 1 := by kernel_rfl
  rw [Instr.checkKey]
  simp only [Sem.run_bind, run_underlying Tryd.underlying33, Result.andThen_ok]
  simp only [Std.Legacy.Range.forIn_eq_forIn_range', Std.Legacy.Range.size, Nat.sub_zero, Nat.add_one_sub_one, Nat.div_one]
  have each : ∀ j ∈ List.range' 0 32, j < 32 := fun j hj => by simp at hj; omega
  generalize List.range' 0 32 = is at each
  induction is with
  | nil => simp
  | cons j is ih =>
    have hj := each j (by simp)
    have p1 := run_part_int Tryd.underlying5 w (u8s h) (j * Tryd.prog.cellsOf 5) _ (by rw [hs, Nat.mul_one]; exact u8s_get h j (by omega))
    have p2 := run_check8a em d (n8 (at8 h j)) w
    simp only [List.forIn_cons, Sem.run_bind, run_sizeOf w hi, Result.andThen_ok, p1, p2, Sem.run_pure]
    exact ih (fun y hy => each y (by simp [hy]))
theorem run_check8 (em : Bool) (h : List UInt8) (hh : h.length = 32) (w : World) : (Instr.checkKey em 10000 33 (.agg (u8s h))).run Tryd.prog w = .ok () w := run_check8d em 9998 h hh w
theorem key_selfK (h : List UInt8) (hh : h.length = 32) (w : World) : (Op.equal 33 (.agg (u8s h)) (.agg (u8s h))).run Tryd.prog w = .ok true w := by
  obtain ⟨i, hi⟩ := Option.isSome_iff_exists.1 (show (Tryd.prog.info? 5).isSome = true by kernel_rfl)
  show (Op.equalIn 10000 33 (.agg (u8s h)) (.agg (u8s h))).run Tryd.prog w = .ok true w
  rw [run_equalIn_array w 9999 (u8s h) (u8s h) Tryd.underlying33 hi, show Tryd.prog.cellsOf 5 = 1 by kernel_rfl, run_eqItems8 Tryd.underlying5 9998 h h w _ (fun j hj => by rw [List.mem_range] at hj; omega)]
  exact congrArg (fun b => Result.ok b w) (List.all_eq_true.2 fun i _ => by simp)
theorem find_none (k : Value) (w : World) : (Instr.findKey 33 k []).run Tryd.prog w = .ok none w := by
  rw [run_findKey_eq (P := Tryd.prog) w (k := 33) (by kernel_rfl)]; simp only [Instr.findAsking, Sem.run_pure]
theorem find_one (h : List UInt8) (hh : h.length = 32) (v : Value) (b : Nat) (w : World) : (Instr.findKey 33 (.agg (u8s h)) [⟨.agg (u8s h), v, b⟩]).run Tryd.prog w = .ok (some (0, v)) w := by
  rw [run_findKey_eq (P := Tryd.prog) w (k := 33) (by kernel_rfl)]; simp only [Instr.findAsking, Sem.run_bind, key_selfK h hh w, Result.andThen_ok, if_true, Sem.run_pure]
theorem zero_int (w : World) : (zeroValue 3).run Tryd.prog w = .ok (.int .i64 0) w := by kernel_rfl
def esK (D : List UInt8) : Nat → Array MapEntry
  | 0 => #[]
  | _ + 1 => #[⟨.agg (u8s D), .int .i64 0, 0⟩]
def MapK (w : World) (r : Nat) (D : List UInt8) (k : Nat) : Prop := ∃ c, w.heap[r]? = some (.map (esK D k) c) ∧ (k = 0 → c = 0)
theorem MapK.step {w w' : World} {r k : Nat} {D : List UInt8} (h : MapK w r D k) (hb : Below w.heap.size w w') : MapK w' r D k := by
  obtain ⟨c, h1, h2⟩ := h
  exact ⟨c, by rw [hb.block r (Array.getElem?_eq_some_iff.1 h1).1]; exact h1, h2⟩
theorem look_none {w : World} {r : Nat} {D : List UInt8} (h : MapK w r D 0) (hD : D.length = 32) : (Instr.lookup 139 (.map (some r)) (.agg (u8s D)) true).run Tryd.prog w = .ok (.tuple #[.int .i64 0, .bool false]) w := by
  obtain ⟨c, h1, _⟩ := h
  simp [Instr.lookup, run_underlying Tryd.underlying139, MapKept.run_getObj_map h1, esK, run_check8 _ D hD, find_none, zero_int, Result.andThen]
theorem look_one {w : World} {r k : Nat} {D : List UInt8} (h : MapK w r D (k + 1)) (hD : D.length = 32) : (Instr.lookup 139 (.map (some r)) (.agg (u8s D)) true).run Tryd.prog w = .ok (.tuple #[.int .i64 0, .bool true]) w := by
  obtain ⟨c, h1, _⟩ := h
  simp [Instr.lookup, run_underlying Tryd.underlying139, MapKept.run_getObj_map h1, esK, run_check8 _ D hD, find_one D hD, Result.andThen]
theorem put_one {w : World} {r : Nat} {D : List UInt8} (h : MapK w r D 0) (hD : D.length = 32) : ∃ w', (Instr.mapUpdate 139 (.map (some r)) (.agg (u8s D)) (.int .i64 0)).run Tryd.prog w = .ok () w' ∧ MapK w' r D 1 ∧ Upd r w w' := by
  obtain ⟨c, h1, h2⟩ := h
  obtain rfl := h2 rfl
  have hlt := (Array.getElem?_eq_some_iff.1 h1).1
  refine ⟨{ w with heap := w.heap.setIfInBounds r (.map (esK D 1) 1) }, ?_, ⟨1, by simp [Array.getElem?_setIfInBounds, hlt], fun h => by omega⟩, rfl, rfl, rfl, by simp, fun k hk hne => by simp [Array.getElem?_setIfInBounds, Ne.symm hne]⟩
  simp [Instr.mapUpdate, run_underlying Tryd.underlying139, MapKept.run_getObj_map h1, MapKept.run_setObj_map _ h1, esK, run_check8 _ D hD, find_none, Result.andThen]
end
section
open Go.RowKit
theorem MapK.ne_row {w : World} {r k q : Nat} {D : List UInt8} {cs : Array Value} (h : MapK w r D k) (hr : RowIs w q cs) : q ≠ r := by
  rintro rfl
  obtain ⟨t, ht⟩ := hr.row.heap
  obtain ⟨c, h1, _⟩ := h
  rw [ht] at h1
  cases h1
def AlikeRes (g base : Nat) (n : Int) (v : Value) (ks : BL) (w : World) (e : Ending) (w' : World) : Prop :=
  e = .returned (.tuple #[.slice none 0 0, .slice none 0 0, .bool false]) ∧ Met w' g n true v ∧ OwnL w' base v ks ∧ Upd g w w'
set_option maxRecDepth 100000 in
set_option maxHeartbeats 1600000 in
theorem alike_any (g base : Nat) (n : Int) (v : Value) (F : List UInt8) (m : Nat) (ks : BL) (w : World) (hks : ks = List.replicate m F) (hm : Met w g n true v) (hown : OwnL w base v ks) (he : ShaEnv w) (hmm : m ≤ 1000) (hF : F.length ≤ 17592186044416) :
    Calls Tryd.prog 38 #[.pointer (some ⟨g, 0, none⟩)] w (AlikeRes g base n v ks w) := by
  have hkm : ks.length = m := by rw [hks, List.length_replicate]
  have hnth : ∀ i, i < m → nthL ks i = F := fun i hi => by rw [hks, nthL_def, List.getD_eq_getElem?_getD, List.getElem?_replicate, if_pos hi]; rfl
  have hin := inputs_any g base n v ks w hm hown (by omega)
  obtain ⟨D, hD⟩ : ∃ D, D = shaB F := ⟨_, rfl⟩
  have hDl : D.length = 32 := by rw [hD, shaB_length]
  have cs := fun v (w : World) h1 h2 h3 => sum_any v F w h1 hF h2 h3
  rw [← hD] at cs
  have CS := Lib.hid cs
  have HN := Lib.hid hnth
  have HKM := Lib.hid hkm
  have HIN := Lib.hid hin
  have hm0 := hm
  clear cs hnth hkm hin hD hm hown hks
  go_enter Tryd.func38, Tryd.ntmps38
  go_wp2_with fail
  refine HIN.out.mono ?_
  rintro e w1 ⟨u, rfl, hm1, ho1, hu1, hu⟩
  replace he := he.upd hm0 hu
  have hbl := hu1.bsl (by rw [HKM.out]; omega)
  obtain ⟨Au, cu, rfl, hcu⟩ := hu1.slice
  rw [HKM.out] at hbl hcu ⊢
  have HBL := Lib.hid hbl
  clear hbl hu1 hm0
  have hq : Below w1.heap.size w1 (w1.alloc (.map #[] 0)) := (by repeat (first | with_reducible exact Below.refl _ _ | with_reducible assumption | refine Below.drew ?_ | refine below_drewN ?_ | refine Below.alloc ?_ (by first | omega | (simp; done) | (simp; omega)) _ | refine below_setRow ?_ (by omega) _ | refine Below.setCell ?_ (by first | omega | (simp; done) | (simp; omega)) _))
  have hmp : MapK (w1.alloc (.map #[] 0)) w1.heap.size D 0 := ⟨0, by rw [heap_alloc_new]; rfl, fun _ => rfl⟩
  have hmk : (Instr.makeMap 139 none).run Tryd.prog w1 = .ok (.map (some w1.heap.size)) (w1.alloc (.map #[] 0)) := rfl
  replace he := he.step hq
  go_wp2_with fail
  go_loopw [17] (fun i wr => ∃ k : Nat, i = .int .i64 k ∧ k ≤ m ∧ MapK wr w1.heap.size D k ∧ ShaEnv wr ∧ Below w1.heap.size w1 wr) (fun i _ => m - (intOf i).toNat)
  case atStart => exact ⟨0, rfl, by omega, hmp, he, hq⟩
  case round =>
    clear hmp he hq
    obtain ⟨k, rfl, hk, hmp, he, hb⟩ := hrel
    have hsz := hb.size
    by_cases hlt : k < m
    · obtain ⟨A', c', e', -, -, hrd⟩ := HBL.out
      injection e' with e1 e2 e3
      obtain ⟨gl, ol, e4, hgl2, hat⟩ := hrd (by rw [HKM.out]; omega)
      obtain ⟨x, hx, hbx⟩ := hat k (by rw [HKM.out]; exact hlt)
      obtain ⟨y, hy, hby⟩ := hat 0 (by rw [HKM.out]; omega)
      rw [← e1] at e4
      subst e4
      clear e1 e2 e3 hrd hat
      rw [HN.out k hlt] at hbx
      rw [HN.out 0 (by omega)] at hby
      have f0 := (hb.cell (p := ⟨gl, ol + k, none⟩) hgl2).trans hx
      have hbx' := hbx.step hb
      have hk0 : (0 : Int) ≤ (k : Int) := by omega
      have hk1 : (k : Int) < m := by omega
      have hm1' : (0 : Int) < m := by omega
      have hwk : IntKind.i64.wrap ((k : Int) + 1) = ((k + 1 : Nat) : Int) := by rw [IntKind.wrap_i64]; omega
      go_wp2_with fail
      refine (CS.out _ _ hbx' he.rounds he.start).mono ?_
      rintro e wa ⟨rfl, hba⟩
      replace hmp := hmp.step hba
      replace he := he.step hba
      replace hb := hb.trans (hba.mono hsz)
      have hq : Below wa.heap.size wa (wa.alloc (.cells (u8s D) 33)) := (by repeat (first | with_reducible exact Below.refl _ _ | with_reducible assumption | refine Below.drew ?_ | refine below_drewN ?_ | refine Below.alloc ?_ (by first | omega | (simp; done) | (simp; omega)) _ | refine below_setRow ?_ (by omega) _ | refine Below.setCell ?_ (by first | omega | (simp; done) | (simp; omega)) _))
      have RK : RowIs (wa.alloc (.cells (u8s D) 33)) wa.heap.size (u8s D) := RowIs.new _ _ _
      have L1 := sload RK hDl
      replace hmp := hmp.step hq
      replace he := he.step hq
      replace hb := hb.trans (hq.mono hb.size)
      clear hba hq hbx' f0
      cases k with
      | zero =>
        have L2 := look_none hmp hDl
        obtain ⟨w4, L3, hmp4, hu4⟩ := put_one hmp hDl
        go_wp2_with fail
        exact ⟨⟨1, by go_num, by omega, hmp4, ⟨he.rounds.upd hu4 (hmp.ne_row he.rounds), he.start.upd hu4 (hmp.ne_row he.start)⟩, Upd.below hb hu4 (Nat.le_refl _) hb.size⟩, by simp [intOf]; omega⟩
      | succ k =>
        have L2 := look_one hmp hDl
        have f0 := (hb.cell (p := ⟨gl, ol, none⟩) hgl2).trans (show w1.cell? ⟨gl, ol, none⟩ = some y by simpa using hy)
        have hx' := hbx.step hb
        have hy' := hby.step hb
        go_wp2_with fail
        refine (equal_bs hy' hx').mono ?_
        rintro e wb ⟨rfl, rfl⟩
        go_wp2_with fail
        exact ⟨⟨k + 1 + 1, by go_num, by omega, by obtain ⟨c, h1, _⟩ := hmp; exact ⟨c, h1, fun h => by omega⟩, he, hb⟩, by simp [intOf]; omega⟩
    · have ek : k = m := by omega
      subst ek
      have hne : ¬ ((k : Int) < k) := by omega
      go_wp2_with fail
      refine bodyPost_ret (results_tmp3 rfl _ _ _) rfl ?_
      exact ⟨rfl, hm1.step hb, ho1.step hb, hu.then hb⟩
end
section
open Go.RowKit
/-- two places whose bytes differ and whose digests do not -/
def Clash (ls : BL) (i j : Nat) : Prop := j < i ∧ nthL ls i ≠ nthL ls j ∧ shaB (nthL ls i) = shaB (nthL ls j)
theorem run_keyeq (l m : List UInt8) (hl : l.length = 32) (hm : m.length = 32) (w : World) : (Op.equal 33 (.agg (u8s l)) (.agg (u8s m))).run Tryd.prog w = .ok (decide (l = m)) w :=
  run_equal8 Tryd.underlying33 (by kernel_rfl) Tryd.underlying5 (by kernel_rfl) l m hl hm w
def EntOk (ls : BL) (k : Nat) (e : MapEntry) : Prop := ∃ j, j < k ∧ e.key = .agg (u8s (shaB (nthL ls j))) ∧ e.val = .int .i64 j ∧ ∀ i, i < j → shaB (nthL ls i) ≠ shaB (nthL ls j)
def EntsOk (ls : BL) (k : Nat) (es : List MapEntry) : Prop := (∀ e ∈ es, EntOk ls k e) ∧ ∀ i, i < k → ∃ e ∈ es, e.key = .agg (u8s (shaB (nthL ls i)))
theorem ask_run (ls : BL) (k : Nat) (D : List UInt8) (hD : D.length = 32) (w : World) : ∀ (es : List MapEntry) (i : Nat), (∀ e ∈ es, EntOk ls k e) →
    ((Instr.findAsking 33 (.agg (u8s D)) es i).run Tryd.prog w = .ok none w ∧ ∀ e ∈ es, e.key ≠ .agg (u8s D)) ∨
    ∃ n j, (Instr.findAsking 33 (.agg (u8s D)) es i).run Tryd.prog w = .ok (some (n, .int .i64 (j : Nat))) w ∧ j < k ∧ shaB (nthL ls j) = D ∧ ∀ i, i < j → shaB (nthL ls i) ≠ D
  | [], i, _ => .inl ⟨by simp only [Instr.findAsking, Sem.run_pure], fun e he => by cases he⟩
  | e :: es, i, h => by
    obtain ⟨j, h1, h2, h3, h4⟩ := h e (by simp)
    have hr := run_keyeq D (shaB (nthL ls j)) hD (shaB_length _) w
    rw [← h2] at hr
    by_cases hd : D = shaB (nthL ls j)
    · refine .inr ⟨i, j, ?_, h1, hd.symm, by rw [hd]; exact h4⟩
      simp only [Instr.findAsking, Sem.run_bind, hr, Result.andThen_ok, decide_eq_true hd, if_true, Sem.run_pure, h3]
    · rcases ask_run ls k D hD w es (i + 1) (fun e he => h e (by simp [he])) with ⟨q1, q2⟩ | ⟨n, j', q1, q2⟩
      · refine .inl ⟨?_, fun e' he' => ?_⟩
        · simp only [Instr.findAsking, Sem.run_bind, hr, Result.andThen_ok, decide_eq_false hd, Bool.false_eq_true, if_false, q1]
        · rcases List.mem_cons.1 he' with rfl | he'
          · rw [h2]; intro e3
            injection e3 with e3
            apply hd
            have e4 : (u8s (shaB (nthL ls j))).toList = (u8s D).toList := by rw [e3]
            rw [u8s_def, u8s_def] at e4
            exact (u8v_inj (by rw [u8v_def, u8v_def]; exact e4)).symm
          · exact q2 e' he'
      · refine .inr ⟨n, j', ?_, q2⟩
        simp only [Instr.findAsking, Sem.run_bind, hr, Result.andThen_ok, decide_eq_false hd, Bool.false_eq_true, if_false, q1]
theorem find_run (ls : BL) (k : Nat) (D : List UInt8) (hD : D.length = 32) (w : World) (es : List MapEntry) (h : ∀ e ∈ es, EntOk ls k e) :
    ((Instr.findKey 33 (.agg (u8s D)) es).run Tryd.prog w = .ok none w ∧ ∀ e ∈ es, e.key ≠ .agg (u8s D)) ∨
    ∃ n j, (Instr.findKey 33 (.agg (u8s D)) es).run Tryd.prog w = .ok (some (n, .int .i64 (j : Nat))) w ∧ j < k ∧ shaB (nthL ls j) = D ∧ ∀ i, i < j → shaB (nthL ls i) ≠ D := by
  have e := run_findKey_eq (P := Tryd.prog) w (k := 33) (by kernel_rfl) (.agg (u8s D)) es
  rw [e]
  exact ask_run ls k D hD w es 0 h
def MapG (w : World) (r : Nat) (ls : BL) (k : Nat) : Prop := ∃ es c, w.heap[r]? = some (.map es c) ∧ EntsOk ls k es.toList
theorem MapG.step {w w' : World} {r k : Nat} {ls : BL} (h : MapG w r ls k) (hb : Below w.heap.size w w') : MapG w' r ls k := by
  obtain ⟨es, c, h1, h2⟩ := h
  exact ⟨es, c, by rw [hb.block r (Array.getElem?_eq_some_iff.1 h1).1]; exact h1, h2⟩
theorem MapG.ne_row {w : World} {r k q : Nat} {ls : BL} {cs : Array Value} (h : MapG w r ls k) (hr : RowIs w q cs) : q ≠ r := by
  rintro rfl
  obtain ⟨t, ht⟩ := hr.row.heap
  obtain ⟨es, c, h1, _⟩ := h
  rw [ht] at h1
  cases h1
theorem MapG.look {w : World} {r k : Nat} {ls : BL} (h : MapG w r ls k) (D : List UInt8) (hDk : D = shaB (nthL ls k)) :
    ((Instr.lookup 139 (.map (some r)) (.agg (u8s D)) true).run Tryd.prog w = .ok (.tuple #[.int .i64 0, .bool false]) w ∧ (∀ i, i < k → shaB (nthL ls i) ≠ D) ∧
      ∃ w', (Instr.mapUpdate 139 (.map (some r)) (.agg (u8s D)) (.int .i64 (k : Nat))).run Tryd.prog w = .ok () w' ∧ MapG w' r ls (k + 1) ∧ Upd r w w') ∨
    ∃ j : Nat, (Instr.lookup 139 (.map (some r)) (.agg (u8s D)) true).run Tryd.prog w = .ok (.tuple #[.int .i64 j, .bool true]) w ∧ j < k ∧ shaB (nthL ls j) = D ∧ (∀ i, i < j → shaB (nthL ls i) ≠ D) ∧ MapG w r ls (k + 1) := by
  have hD : D.length = 32 := by rw [hDk, shaB_length]
  obtain ⟨es, c, h1, h2, h3⟩ := h
  have hlt := (Array.getElem?_eq_some_iff.1 h1).1
  rcases find_run ls k D hD w es.toList h2 with ⟨q1, q2⟩ | ⟨n, j, q1, q2, q3, q4⟩
  · have hno : ∀ i, i < k → shaB (nthL ls i) ≠ D := fun i hi e => by
      obtain ⟨x, hx, hk⟩ := h3 i hi
      exact q2 x hx (by rw [hk, e])
    refine .inl ⟨?_, hno, { w with heap := w.heap.setIfInBounds r (.map (es.push ⟨.agg (u8s D), .int .i64 k, c⟩) (c + 1)) }, ?_, ⟨es.push ⟨.agg (u8s D), .int .i64 k, c⟩, c + 1, by simp [Array.getElem?_setIfInBounds, hlt], ?_, ?_⟩, rfl, rfl, rfl, by simp, fun i hi hne => by simp [Array.getElem?_setIfInBounds, Ne.symm hne]⟩
    · simp [Instr.lookup, run_underlying Tryd.underlying139, MapKept.run_getObj_map h1, run_check8 _ D hD, q1, zero_int, Result.andThen]
    · simp [Instr.mapUpdate, run_underlying Tryd.underlying139, MapKept.run_getObj_map h1, MapKept.run_setObj_map _ h1, run_check8 _ D hD, q1, Result.andThen]
    · intro e he
      rw [Array.toList_push, List.mem_append] at he
      rcases he with he | he
      · obtain ⟨j, a1, a2⟩ := h2 e he
        exact ⟨j, by omega, a2⟩
      · obtain rfl : e = ⟨.agg (u8s D), .int .i64 k, c⟩ := by simpa using he
        exact ⟨k, by omega, by rw [hDk], rfl, fun i hi e => hno i hi (by rw [e, hDk])⟩
    · intro i hi
      rcases Nat.lt_or_ge i k with hik | hik
      · obtain ⟨x, hx, hk⟩ := h3 i hik
        exact ⟨x, by rw [Array.toList_push]; exact List.mem_append_left _ hx, hk⟩
      · obtain rfl : i = k := by omega
        exact ⟨_, by rw [Array.toList_push]; exact List.mem_append_right _ (List.mem_singleton.2 rfl), by rw [hDk]⟩
  · refine .inr ⟨j, ?_, q2, q3, q4, es, c, h1, fun e he => ?_, fun i hi => ?_⟩
    · simp [Instr.lookup, run_underlying Tryd.underlying139, MapKept.run_getObj_map h1, run_check8 _ D hD, q1, Result.andThen]
    · obtain ⟨j', a1, a2⟩ := h2 e he
      exact ⟨j', by omega, a2⟩
    · rcases Nat.lt_or_ge i k with hik | hik
      · exact h3 i hik
      · obtain rfl : i = k := by omega
        obtain ⟨x, hx, hk⟩ := h3 j q2
        exact ⟨x, hx, by rw [hk, q3, hDk]⟩
end
section
open Go.RowKit
/-- what Alike says of a list -/
def AlikeIs (ls : BL) (w : World) (a b : Value) (t : Bool) : Prop :=
  (t = false ∧ a = .slice none 0 0 ∧ b = .slice none 0 0 ∧ ∀ i j, i < ls.length → ¬ Clash ls i j) ∨
  ∃ i j, t = true ∧ i < ls.length ∧ Clash ls i j ∧ (∀ i' j', i' < i → ¬ Clash ls i' j') ∧ (∀ j', j' < j → ¬ Clash ls i j') ∧ Bs w a (nthL ls j) ∧ Bs w b (nthL ls i)
def AlikeG (g base : Nat) (n : Int) (kp : Bool) (v : Value) (ls : BL) (w : World) (e : Ending) (w' : World) : Prop :=
  (∃ a b t, e = .returned (.tuple #[a, b, .bool t]) ∧ AlikeIs ls w' a b t) ∧ Met w' g n kp v ∧ OwnL w' base v ls ∧ Upd g w w'
theorem clash_new {ls : BL} {k j : Nat} (hno : ∀ i j, i < k → ¬ Clash ls i j) (hj : j < k) (hd : shaB (nthL ls j) = shaB (nthL ls k)) (hleast : ∀ i, i < j → shaB (nthL ls i) ≠ shaB (nthL ls k)) (heq : nthL ls j = nthL ls k) : ∀ j', ¬ Clash ls k j' := by
  rintro j' ⟨h1, h2, h3⟩
  rcases Nat.lt_trichotomy j' j with h | h | h
  · exact hleast j' h h3.symm
  · subst h; exact h2 heq.symm
  · exact hno j' j h1 ⟨h, fun e => h2 (by rw [e, heq]), by rw [← h3, hd]⟩
set_option maxRecDepth 100000 in
set_option maxHeartbeats 1600000 in
theorem alikeG_any (g base : Nat) (n : Int) (kp : Bool) (v : Value) (ls : BL) (w : World) (hm : Met w g n kp v) (hown : OwnL w base v ls) (he : ShaEnv w) (hmm : ls.length ≤ 1000) (hle : ∀ i, i < ls.length → (nthL ls i).length ≤ 17592186044416) :
    Calls Tryd.prog 38 #[.pointer (some ⟨g, 0, none⟩)] w (AlikeG g base n kp v ls w) := by
  have hin := inputsQ_any g base n kp v ls w hm hown (by omega)
  obtain ⟨m, hkm⟩ : ∃ m, m = ls.length := ⟨_, rfl⟩
  have HKM := Lib.hid hkm
  have HLE := Lib.hid hle
  have HIN := Lib.hid hin
  have hm0 := hm
  rw [← hkm] at hmm
  clear hin hm hown hle hkm
  go_enter Tryd.func38, Tryd.ntmps38
  go_wp2_with fail
  refine HIN.out.mono ?_
  rintro e w1 ⟨u, rfl, hm1, ho1, hu1, hu⟩
  replace he := he.upd hm0 hu
  have hbl := hu1.bsl (by rw [← HKM.out]; omega)
  obtain ⟨Au, cu, rfl, hcu⟩ := hu1.slice
  rw [← HKM.out] at hbl hcu ⊢
  have HBL := Lib.hid hbl
  clear hbl hu1 hm0
  have hq : Below w1.heap.size w1 (w1.alloc (.map #[] 0)) := (by repeat (first | with_reducible exact Below.refl _ _ | with_reducible assumption | refine Below.drew ?_ | refine below_drewN ?_ | refine Below.alloc ?_ (by first | omega | (simp; done) | (simp; omega)) _ | refine below_setRow ?_ (by omega) _ | refine Below.setCell ?_ (by first | omega | (simp; done) | (simp; omega)) _))
  have hmp : MapG (w1.alloc (.map #[] 0)) w1.heap.size ls 0 := ⟨#[], 0, by rw [heap_alloc_new], fun e he => by simp at he, fun i hi => absurd hi (by omega)⟩
  have hmk : (Instr.makeMap 139 none).run Tryd.prog w1 = .ok (.map (some w1.heap.size)) (w1.alloc (.map #[] 0)) := rfl
  replace he := he.step hq
  go_wp2_with fail
  go_loopw [17] (fun i wr => ∃ k : Nat, i = .int .i64 k ∧ k ≤ m ∧ MapG wr w1.heap.size ls k ∧ (∀ i j, i < k → ¬ Clash ls i j) ∧ ShaEnv wr ∧ Below w1.heap.size w1 wr) (fun i _ => m - (intOf i).toNat)
  case atStart => exact ⟨0, rfl, by omega, hmp, fun i j hi => absurd hi (by omega), he, hq⟩
  case round =>
    clear hmp he hq
    obtain ⟨k, rfl, hk, hmp, hno, he, hb⟩ := hrel
    have HNO := Lib.hid hno
    clear hno
    have hsz := hb.size
    by_cases hlt : k < m
    · obtain ⟨A', c', e', -, -, hrd⟩ := HBL.out
      injection e' with e1 e2 e3
      obtain ⟨gl, ol, e4, hgl2, hat⟩ := hrd (by rw [← HKM.out]; omega)
      have HAT := Lib.hid hat
      obtain ⟨x, hx, hbx⟩ := hat k (by rw [← HKM.out]; exact hlt)
      have hkB := HLE.out k (by rw [← HKM.out]; exact hlt)
      rw [← e1] at e4
      subst e4
      clear e1 e2 e3 hrd hat
      have f0 := (hb.cell (p := ⟨gl, ol + k, none⟩) hgl2).trans hx
      have hk0 : (0 : Int) ≤ (k : Int) := by omega
      have hk1 : (k : Int) < m := by omega
      have hwk : IntKind.i64.wrap ((k : Int) + 1) = ((k + 1 : Nat) : Int) := by rw [IntKind.wrap_i64]; omega
      have cs := fun (W : World) q1 q2 q3 => sum_any x (nthL ls k) W q1 hkB q2 q3
      obtain ⟨D, hD⟩ : ∃ D, D = shaB (nthL ls k) := ⟨_, rfl⟩
      have hDl : D.length = 32 := by rw [hD, shaB_length]
      rw [← hD] at cs
      have CS := Lib.hid cs
      have HD := Lib.hid hD
      clear cs hD
      go_wp2_with fail
      refine (CS.out _ (hbx.step hb) he.rounds he.start).mono ?_
      rintro e wa ⟨rfl, hba⟩
      replace hmp := hmp.step hba
      replace he := he.step hba
      replace hb := hb.trans (hba.mono hsz)
      have hq : Below wa.heap.size wa (wa.alloc (.cells (u8s D) 33)) := (by repeat (first | with_reducible exact Below.refl _ _ | with_reducible assumption | refine Below.drew ?_ | refine below_drewN ?_ | refine Below.alloc ?_ (by first | omega | (simp; done) | (simp; omega)) _ | refine below_setRow ?_ (by omega) _ | refine Below.setCell ?_ (by first | omega | (simp; done) | (simp; omega)) _))
      have RK : RowIs (wa.alloc (.cells (u8s D) 33)) wa.heap.size (u8s D) := RowIs.new _ _ _
      have L1 := sload RK hDl
      replace hmp := hmp.step hq
      replace he := he.step hq
      replace hb := hb.trans (hq.mono hb.size)
      clear hba hq f0
      rcases hmp.look D HD.out with ⟨L2, hfresh, w4, L3, hmp4, hu4⟩ | ⟨j, L2, hj, hDj, hleast, hmp4⟩
      · have HFR := Lib.hid hfresh
        clear hfresh
        go_wp2_with fail
        exact ⟨⟨k + 1, by go_num, by omega, hmp4, fun i j hi hc => by
          rcases Nat.lt_or_ge i k with h | h
          · exact HNO.out i j h hc
          · obtain rfl : i = k := by omega
            exact HFR.out j hc.1 (by rw [← hc.2.2, HD.out]), ⟨he.rounds.upd hu4 (hmp.ne_row he.rounds), he.start.upd hu4 (hmp.ne_row he.start)⟩, Upd.below hb hu4 (Nat.le_refl _) hb.size⟩, by simp [intOf]; omega⟩
      · obtain ⟨y, hy, hby⟩ := HAT.out j (by rw [← HKM.out]; omega)
        have f0 := (hb.cell (p := ⟨gl, ol + j, none⟩) hgl2).trans hy
        have hx' := hbx.step hb
        have hy' := hby.step hb
        have j0 : (0 : Int) ≤ (j : Int) := by omega
        have j1 : (j : Int) < m := by omega
        have heqb := equal_bs hy' hx'
        rw [HD.out] at hDj hleast
        have HDJ := Lib.hid hDj; have HLS := Lib.hid hleast
        clear hDj hleast
        by_cases heq : nthL ls j = nthL ls k
        · rw [decide_eq_true heq] at heqb
          have HQ := Lib.hid heq
          clear heq
          go_wp2_with fail
          refine heqb.mono ?_
          rintro e wb ⟨rfl, rfl⟩
          go_wp2_with fail
          exact ⟨⟨k + 1, by go_num, by omega, hmp4, fun i j' hi hc => by
            rcases Nat.lt_or_ge i k with h | h
            · exact HNO.out i j' h hc
            · obtain rfl : i = k := by omega
              exact clash_new HNO.out hj HDJ.out HLS.out HQ.out j' hc, he, hb⟩, by simp [intOf]; omega⟩
        · rw [decide_eq_false heq] at heqb
          have HQ := Lib.hid heq
          clear heq
          go_wp2_with fail
          refine heqb.mono ?_
          rintro e wb ⟨rfl, rfl⟩
          go_wp2_with fail
          refine bodyPost_ret (results_tmp3 rfl _ _ _) rfl ?_
          refine ⟨⟨y, x, true, rfl, .inr ⟨k, j, rfl, by rw [← HKM.out]; exact hlt, ⟨hj, fun e => HQ.out e.symm, HDJ.out.symm⟩, fun i' j' h => HNO.out i' j' h, fun j' h hc => HLS.out j' h hc.2.2.symm, hy', hx'⟩⟩, hm1.step hb, ho1.step hb, hu.then hb⟩
    · have ek : k = m := by omega
      subst ek
      have hne : ¬ ((k : Int) < k) := by omega
      go_wp2_with fail
      refine bodyPost_ret (results_tmp3 rfl _ _ _) rfl ?_
      exact ⟨⟨_, _, _, rfl, .inl ⟨rfl, rfl, rfl, fun i j hi => HNO.out i j (by rw [HKM.out]; exact hi)⟩⟩, hm1.step hb, ho1.step hb, hu.then hb⟩
end
section
open Go.RowKit
theorem OwnG.src {T : TypeId} {p : Value → Bool} {w : World} {base n c : Nat} {A : Option Addr} {xs : List Value} (h : OwnG T 1 p w base (.slice A n c) n xs) : SrcAt w A xs := fun h0 => by
  have hn : 0 < n := by have := h.1; omega
  obtain ⟨g, o, c', e, _, _⟩ := h.addr hn
  injection e with e1 e2 e3
  subst e1
  exact ⟨g, o, rfl, fun j u hu => (h.at rfl).2.2.1 j u hu⟩
/-- a list's elements appended to an own list -/
theorem wpList_appendLx {w : World} {o : Oper} {a : Act} {ops : Array Oper} {rest : List Oper} {Q : Exit → Act → World → Prop} (hgd : o.guard = none) (sl x : Operand) (ho : o.op = .call { callee := .builtin .append, args := #[sl, x], argTypes := #[42, 42] })
    {base n m c N : Nat} {A : Option Addr} {v : Value} {vs us : List Value} (hsv : a.eval sl = v) (hown : OwnG 27 1 isSl w base v n vs) (hx : a.eval x = .slice A m c) (hl : us.length = m) (hsrc : SrcAt w A us) (h1 : ∀ u ∈ us, u.oneCell' = true ∧ isSl u = true) (hN : n + m = N) (hb : N ≤ 1000000) (hbase : base ≤ w.heap.size)
    (hK : ∀ A' c' w', OwnG 27 1 isSl w' base (.slice A' N c') N (vs ++ us) → w.grownBy w' v.ownBlock → wpList Tryd.prog ops Q rest (a.put o.dst (.slice A' N c')) w') : wpList Tryd.prog ops Q (o :: rest) a w := by
  obtain ⟨i, hi1, hz, hs1, hb1⟩ := info_parts slInfo
  refine wpList_plain hgd fun _ hK' => ?_
  exact wp_appendG (p := isSl) (s := 1) Tryd.underlying42 hi1 hz hs1 hb1 (by simp [Value.cells]) (by omega) (by simp [Value.cells, isSl]) sl x ho hsv hown hx (by omega) hsrc (fun u hu => (h1 u hu).1) (fun u hu => (h1 u hu).2) hN (by simp only [maxLen]; omega) (by omega) hbase (fun A' c' w' q1 q2 _ => hK' _ _ (hK A' c' w' q1 q2))
theorem Own8.bsN {T : TypeId} {w : World} {base N c : Nat} {A : Option Addr} {b : List UInt8} (h : Own8 T w base (.slice A N c) b) (hN : b.length = N) (hl : N ≤ 140737488351232) : Bs w (.slice A N c) b := by
  subst hN
  exact Bs.of h.len.2 hl h.rd
theorem Own8.fresh {T : TypeId} {w : World} {base N c r : Nat} {A : Option Addr} {b : List UInt8} (h : Own8 T w base (.slice A N c) b) (hr : r < base) : 0 < b.length → ∃ b' o, A = some ⟨b', o, none⟩ ∧ b' ≠ r := fun h0 => by
  obtain ⟨b', cap, hv, hbb, _⟩ := World.ownsRow.form h h0
  injection hv with hA
  exact ⟨b', 0, hA, by omega⟩
theorem Upd.grown {g : Nat} {row : Option Nat} {w w1 w2 : World} (h : Upd g w w1) (hg : w1.grownBy w2 row) (hr : ∀ k, row = some k → w.heap.size ≤ k) : Upd g w w2 :=
  ⟨hg.os.trans h.os, hg.tape.trans h.tape, hg.output.trans h.output, Nat.le_trans h.size hg.size, fun k hk hne => (hg.block k (Nat.lt_of_lt_of_le hk h.size) (fun e => by have := hr k e.symm; omega)).trans (h.block k hk hne)⟩
def LSumK (r base : Nat) (n : Int) (v : Value) (ls : BL) (b : List UInt8) (w : World) (e : Ending) (w' : World) : Prop :=
  e = .returned (.agg (u8s (shaB b))) ∧ (∃ v', RowIs w' r #[.bool true, .int .i64 (n + 1), v'] ∧ OwnL w' base v' (ls ++ [b]) ∧ (∀ rr, rr < w.heap.size → Kept rr w base v ls → Kept rr w' base v' (ls ++ [b])) ∧ ∀ k, v'.ownBlock = some k → w.heap.size ≤ k) ∧ Upd r w w'
theorem logRow {w : World} {r : Nat} {k : Bool} {n : Int} {v : Value} (h : RowIs w r #[.bool k, .int .i64 n, v]) : w.cell? ⟨r, 0, none⟩ = some (.bool k) ∧ w.cell? ⟨r, 1, none⟩ = some (.int .i64 n) ∧ w.cell? ⟨r, 2, none⟩ = some v := by
  obtain ⟨t, ht⟩ := h.row.heap
  rw [h.has] at ht
  rw [cell_of_row _ _ _ _ t (0, 0) ht, cell_of_row _ _ _ _ t (0, 0) ht, cell_of_row _ _ _ _ t (0, 0) ht]; exact ⟨rfl, rfl, rfl⟩
set_option maxRecDepth 100000 in
set_option maxHeartbeats 1600000 in
theorem lsumK_any (r base : Nat) (n : Int) (v vb : Value) (ls : BL) (b : List UInt8) (w : World) (hR : RowIs w r #[.bool true, .int .i64 n, v]) (hown : OwnL w base v ls) (hrb : r < base) (hbz : base ≤ w.heap.size) (hkl : ls.length ≤ 1000) (hvb : Bs w vb b) (hl : b.length ≤ 17592186044416) (h1 : 0 ≤ n) (h2 : n ≤ 1000000) :
    Calls Tryd.prog 35 #[.pointer (some ⟨r, 0, none⟩), vb] w (LSumK r base n v ls b w) := by
  have hrl := hR.lt
  have hn0 : (0 : Int) ≤ n + 1 := by omega
  have hn1 : (n : Int) + 1 ≤ (4611686018427387905 : Int) := by omega
  obtain ⟨A0, c0, rfl, hc0⟩ := hown.slice
  obtain ⟨vs, hG, hall⟩ := hown
  have HALL := Lib.hid hall
  obtain ⟨nk, hnk⟩ : ∃ n, n = ls.length := ⟨_, rfl⟩
  have HNK := Lib.hid hnk
  have HG0 := Lib.hid hG
  rw [← hnk] at hR hG hkl hc0
  clear hnk hall
  obtain ⟨q0, q1, q2⟩ := logRow hR
  have fz := fun i => hR.fz i
  obtain ⟨N, hN⟩ : ∃ N, b.length = N := ⟨_, rfl⟩
  have HN := Lib.hid hN
  rw [hN] at hl
  clear hN
  have hu1 : Upd r w (w.setCell ⟨r, 1, none⟩ (.int .i64 (n + 1))) := (Upd.refl r w).put 1 _
  have hG1 := hG.updL hu1 (fun e => by have := (hG.lt e).1; omega)
  have n8 : No8 w r := no8_row hR (by simp)
  have hv1 := hvb.upd hu1 n8
  have R11 : RowIs (w.setCell ⟨r, 1, none⟩ (.int .i64 (n + 1))) r #[.bool true, .int .i64 (n + 1), .slice A0 nk c0] := by
    have := hR.put 1 (.int .i64 (n + 1))
    simpa using this
  have hz1 : (w.setCell ⟨r, 1, none⟩ (.int .i64 (n + 1))).heap.size = w.heap.size := by simp [World.setCell]
  have hB2 : Below (w.setCell ⟨r, 1, none⟩ (.int .i64 (n + 1))).heap.size (w.setCell ⟨r, 1, none⟩ (.int .i64 (n + 1))) (((w.setCell ⟨r, 1, none⟩ (.int .i64 (n + 1))).alloc (.cells (u8s (zeros 32)) 33)).alloc (.cells #[] 27)) := (by repeat (first | with_reducible exact Below.refl _ _ | with_reducible assumption | refine Below.drew ?_ | refine below_drewN ?_ | refine Below.alloc ?_ (by first | omega | (simp; done) | (simp; omega)) _ | refine below_setRow ?_ (by omega) _ | refine Below.setCell ?_ (by first | omega | (simp; done) | (simp; omega)) _))
  have R0 : RowIs (((w.setCell ⟨r, 1, none⟩ (.int .i64 (n + 1))).alloc (.cells (u8s (zeros 32)) 33)).alloc (.cells #[] 27)) w.heap.size (u8s (zeros 32)) := (RowIs.new' (by rw [hz1])).alloc _
  have own0 := OwnG.new 27 1 isSl ((w.setCell ⟨r, 1, none⟩ (.int .i64 (n + 1))).alloc (.cells (u8s (zeros 32)) 33)) (w.heap.size + 1) [] 0 rfl (fun u hu => by cases hu) (by simp [hz1]) (by simp [maxLen]) (g := w.heap.size + 1) (by simp [hz1])
  have hv2 := hv1.step hB2
  have R12 := R11.step hB2
  have hG2 := hG1.step hB2
  have hsrc := hG2.src
  have hone : ∀ u ∈ vs, u.oneCell' = true ∧ isSl u = true := HALL.out.one
  have hlen : vs.length = nk := by have := hG.1; omega
  have hb2 : w.heap.size + 1 ≤ (((w.setCell ⟨r, 1, none⟩ (.int .i64 (n + 1))).alloc (.cells (u8s (zeros 32)) 33)).alloc (.cells #[] 27)).heap.size := by simp [hz1]
  have hu2 := hu1.then hB2
  go_enter Tryd.func35, Tryd.ntmps35
  go_wp2_with (first
    | (at_builtin; refine wpList_appendLx rfl (.tmp 17) (.tmp 21) rfl rfl own0 rfl hlen hsrc hone (Nat.zero_add _) (by omega) hb2 ?_; intro A3 c3 w3 own3 gr3; have hv3 := hv2.grown gr3 (fun k hk => own0.no8 (fun _ => rfl) hk); have R03 := R0.grown gr3 (own0.ne_row R0 (key_no (zeros_length 32))); have R13 := R12.grown gr3 (own0.ne_row R12 (by simp [isSl])); have hz3 := gr3.size; have own80 := Own8.empty (T := 5) (g := w3.heap.size) w3 (base := w3.heap.size) rfl (Nat.le_refl _); have hq3 : Below w3.heap.size w3 (w3.alloc (.cells #[] 5)) := (Below.refl _ _).alloc (Nat.le_refl _) _; have hv3' := hv3.step hq3)
    | (at_builtin; refine wpList_appendBs Tryd.underlying27 Tryd.info8 rfl (.tmp 23) (.tmp 24) rfl w3.heap.size rfl own80 rfl hv3' (List.nil_append _) HN.out (by omega) (by simp) ?_; intro A5 c5 w5 own5 bel5; have hb35 : Below w3.heap.size w3 w5 := hq3.trans bel5; have hv5 := own5.bsN HN.out (by omega); have hfr5 := own5.fresh (r := w.heap.size) (by omega); have hfrA := Lib.hid (fun rr (hrr : rr < w.heap.size) => own5.fresh (r := rr) (by omega)); have own35 := own3.step hb35; have R05 := R03.step hb35; have R15 := R13.step hb35; have hq5 : Below w5.heap.size w5 (w5.alloc (.cells #[.slice A5 N c5] 27)) := (Below.refl _ _).alloc (Nat.le_refl _) _; have own36 := own35.step hq5; have R06 := R05.step hq5; have R16 := R15.step hq5; have hv6 := hv5.step hq5; have hw6 := (hv3.step hb35).step hq5; have hb6 : w.heap.size + 1 ≤ (w5.alloc (.cells #[.slice A5 N c5] 27)).heap.size := Nat.le_trans hb2 (Nat.le_trans hz3 (Nat.le_trans hb35.size hq5.size)))
    | (at_builtin; refine wpList_appendL1 rfl (.tmp 22) (.tmp 26) rfl rfl own36 (b := w5.heap.size) rfl (u := .slice A5 N c5) (by go_simp) rfl rfl (by omega) hb6 ?_; intro A7 c7 w7 own7 gr7 ob7; have R17 := R16.grown gr7 (own36.ne_row R16 (by simp [isSl])); have fz7 := RowIs.fz R17 2; have c17 := (logRow R17).2.2; have hr7 := RowIs.lt R17))
  have R07 := R06.grown gr7 (own36.ne_row R06 (key_no (zeros_length 32)))
  have hv7 := hv6.grown gr7 (fun k hk => own36.no8 (fun _ => rfl) hk)
  have hw7 := hw6.grown gr7 (fun k hk => own36.no8 (fun _ => rfl) hk)
  have hu7 : Upd r w w7 := ((((hu2.grown gr3 (fun k hk => by have := (own0.lt hk).1; omega)).then hb35).then hq5).grown gr7 (fun k hk => by have := (own36.lt hk).1; omega))
  have hu8 : Upd r w7 (w7.setCell ⟨r, 2, none⟩ (.slice A7 (nk + 1) c7)) := (Upd.refl r w7).put 2 _
  have n87 : No8 w7 r := no8_row R17 (by simp)
  have hv8 := hv7.upd hu8 n87
  have hw8 := hw7.upd hu8 n87
  have own8 := own7.updL hu8 (own7.ne_row R17 (by simp [isSl]))
  have R08 := R07.upd hu8 (show w.heap.size ≠ r by omega)
  have R18 : RowIs (w7.setCell ⟨r, 2, none⟩ (.slice A7 (nk + 1) c7)) r #[.bool true, .int .i64 (n + 1), .slice A7 (nk + 1) c7] := by
    have := R17.put 2 (.slice A7 (nk + 1) c7)
    simpa using this
  replace hu8 := hu7.trans hu8
  generalize w7.setCell ⟨r, 2, none⟩ (.slice A7 (nk + 1) c7) = w8 at hv8 hw8 own8 R08 R18 hu8 ⊢
  clear own0 own3 own35 own36 own5 own7 own80 gr3 gr7 hq3 hq5 hb35 bel5
  obtain ⟨D, hD⟩ : ∃ D, D = shaB b := ⟨_, rfl⟩
  have hkl := shaB_length b
  have hd := digest_any vb b _ hw8 (by rw [HN.out]; exact hl)
  rw [← hD] at hkl hd
  have HD := Lib.hid hd
  have HDD := Lib.hid hD
  clear hd hD
  refine HD.out.mono ?_
  rintro e w9 ⟨rfl, hb9⟩
  have R09 := R08.step hb9
  have R19 := R18.step hb9
  have own9 := own8.step hb9
  have hv9 := hv8.step hb9
  replace hu8 := hu8.then hb9
  have hne9 := own9.ne_row R09 (key_no (zeros_length 32))
  have R09h := R09.has; have R09r := R09.row; have R09l := R09.lt
  go_wp2_with fail
  refine bodyPost_retRow 4 _ w.heap.size 32 rfl rfl (by omega) (by kernel_rfl) (by kernel_rfl) ?_ rfl ?_
  · go_simp
  · go_simp
    have hU := hu8.setRow (Nat.le_refl _) (u8s D)
    have hG9 := (own9.keep (w' := w9.setRow w.heap.size (u8s D)) fun k hk _ _ => setRow_other w9 w.heap.size k _ (fun e => hne9 (by rw [hk, e])))
    have hA9 := (HALL.out.map fun _ _ h => h.upd hU n8).append (us := [.slice A5 N c5]) (ms := [b]) ⟨hv9.setRow_ne (r := w.heap.size) hfr5, trivial⟩
    have hL9 : (ls ++ [b]).length = nk + 1 := by rw [List.length_append, ← HNK.out]; rfl
    have hG9b := hG9.mono (b := base) (by omega)
    refine ⟨by rw [HDD.out], ⟨_, R19.set_ne (show r ≠ w.heap.size by omega) _, ⟨vs ++ [.slice A5 N c5], by rw [hL9]; exact hG9b, hA9⟩, fun rr hrr hkp => ⟨vs ++ [.slice A5 N c5], by rw [hL9]; exact hG9b, hA9, fun i u hu h0 => ?_⟩, fun k hk => by have := (hG9.lt hk).1; omega⟩, hU⟩
    obtain ⟨vs2, g2, a2, off2⟩ := hkp
    obtain rfl : vs2 = vs := g2.unique HG0.out
    rcases Nat.lt_or_ge i vs2.length with hi | hi
    · rw [List.getElem?_append_left hi] at hu
      refine off2 i u hu ?_
      have e : nthL (ls ++ [b]) i = nthL ls i := by rw [nthL_def, nthL_def, List.getD_eq_getElem?_getD, List.getD_eq_getElem?_getD, List.getElem?_append_left (by rw [← a2.len]; exact hi)]
      rw [e] at h0; exact h0
    · have hlt := (List.getElem?_eq_some_iff.1 hu).1
      rw [List.length_append] at hlt
      have hi2 : i = vs2.length := by simp at hlt; omega
      subst hi2
      have e : nthL (ls ++ [b]) vs2.length = b := by rw [a2.len, nthL_def, List.getD_eq_getElem?_getD, List.getElem?_append_right (Nat.le_refl _)]; simp
      rw [e] at h0
      obtain ⟨b', o, eA, hne2⟩ := hfrA.out rr hrr h0
      have eu : u = .slice A5 N c5 := by simpa using hu.symm
      rw [eu, eA]
      intro e3
      exact hne2 (Option.some.inj e3)
end
section
open Go.RowKit
def LaS (r gl a b : Nat) (v u1 u2 : Value) (w : World) : Prop := w.cell? ⟨r, 2, none⟩ = some v ∧ w.cell? ⟨gl, a, none⟩ = some u1 ∧ w.cell? ⟨gl, b, none⟩ = some u2
def LAlike (ls : BL) (w : World) (e : Ending) (w' : World) : Prop := (∃ a b t, e = .returned (.tuple #[a, b, .bool t]) ∧ AlikeIs ls w' a b t) ∧ Below w.heap.size w w'
set_option maxRecDepth 100000 in
set_option maxHeartbeats 3200000 in
theorem lalike_any (r : Nat) (n : Int) (kp : Bool) (v : Value) (ls : BL) (w : World) (hR : RowIs w r #[.bool kp, .int .i64 n, v]) (hbl : BsL w v ls) (hl : ls.length ≤ 1000) (hle : ∀ i, i < ls.length → (nthL ls i).length ≤ 17592186044416) :
    Calls Tryd.prog 39 #[.pointer (some ⟨r, 0, none⟩)] w (LAlike ls w) := by
  obtain ⟨A, c, rfl, hc, -, hrd⟩ := hbl
  have HRD := Lib.hid hrd
  have HLE := Lib.hid hle
  obtain ⟨m, hm⟩ : ∃ m, m = ls.length := ⟨_, rfl⟩
  have HM := Lib.hid hm
  rw [← hm] at hR hl hc
  have hrl := hR.lt
  have HR := Lib.hid hR
  clear hrd hle hm hR
  go_enter Tryd.func39, Tryd.ntmps39
  go_wp2_with fail
  go_loopw [5] (fun i wr => ∃ k : Nat, i = .int .i64 k ∧ k ≤ m ∧ (∀ i j, i < k → ¬ Clash ls i j) ∧ Below w.heap.size w wr) (fun i _ => m - (intOf i).toNat)
  case atStart => exact ⟨0, rfl, by omega, fun i j hi => absurd hi (by omega), Below.refl _ _⟩
  case round =>
    obtain ⟨k, rfl, hk, hno, HB⟩ := hrel
    have HNO := Lib.hid hno
    clear hno
    have f2 := (logRow (HR.out.step HB)).2.2
    by_cases hlt : k < m
    · have hk0 : (0 : Int) ≤ (k : Int) := by omega
      have hk1 : (k : Int) < m := by omega
      have hwk : IntKind.i64.wrap ((k : Int) + 1) = ((k + 1 : Nat) : Int) := by rw [IntKind.wrap_i64]; omega
      obtain ⟨gl, ol, rfl, hgl, hat⟩ := HRD.out (by rw [← HM.out]; omega)
      obtain ⟨x, hx, hbx⟩ := hat k (by rw [← HM.out]; exact hlt)
      have HAT := Lib.hid hat
      have hkB := HLE.out k (by rw [← HM.out]; exact hlt)
      clear hat
      go_wp2_with fail
      go_loopw [6] (fun i wr => ∃ j : Nat, i = .int .i64 j ∧ j ≤ k ∧ (∀ j', j' < j → ¬ Clash ls k j') ∧ Below w.heap.size w wr) (fun i _ => k - (intOf i).toNat)
      case atStart => exact ⟨0, rfl, by omega, fun j hj => absurd hj (by omega), HB⟩
      case round =>
        clear HB f2
        obtain ⟨j, rfl, hj, hnj, HB⟩ := hrel
        have HNJ := Lib.hid hnj
        clear hnj
        by_cases hjk : j < k
        · have j0 : (0 : Int) ≤ (j : Int) := by omega
          have j1 : (j : Int) < m := by omega
          have j2 : (j : Int) < k := by omega
          have hwj : IntKind.i64.wrap ((j : Int) + 1) = ((j + 1 : Nat) : Int) := by rw [IntKind.wrap_i64]; omega
          obtain ⟨y, hy, hby⟩ := HAT.out j (by rw [← HM.out]; omega)
          have hjB := HLE.out j (by rw [← HM.out]; omega)
          have hSS : ∀ w', Below w.heap.size w w' → LaS r gl (ol + k) (ol + j) (.slice (some ⟨gl, ol, none⟩) m c) x y w' := fun w' h => ⟨(logRow (HR.out.step h)).2.2, (h.cell (p := ⟨gl, ol + k, none⟩) hgl).trans hx, (h.cell (p := ⟨gl, ol + j, none⟩) hgl).trans hy⟩
          have HSS := Lib.hid hSS
          have hd1 := fun (W : World) q => digest_any x (nthL ls k) W q hkB
          have hd2 := fun (W : World) q => digest_any y (nthL ls j) W q hjB
          obtain ⟨D1, hD1⟩ : ∃ D, D = shaB (nthL ls k) := ⟨_, rfl⟩
          obtain ⟨D2, hD2⟩ : ∃ D, D = shaB (nthL ls j) := ⟨_, rfl⟩
          have l1 : D1.length = 32 := by rw [hD1, shaB_length]
          have l2 : D2.length = 32 := by rw [hD2, shaB_length]
          rw [← hD1] at hd1
          rw [← hD2] at hd2
          have HD1 := Lib.hid hd1; have HD2 := Lib.hid hd2
          have HE1 := Lib.hid hD1; have HE2 := Lib.hid hD2
          clear hSS hd1 hd2 hD1 hD2
          have hE : ∀ w, (Op.equalIn 10000 33 (.agg (u8s D1)) (.agg (u8s D2))).run Tryd.prog w = .ok (decide (D1 = D2)) w := fun w => run_equal8 Tryd.underlying33 (by kernel_rfl) Tryd.underlying5 (by kernel_rfl) D1 D2 l1 l2 w
          by_cases heq : nthL ls k = nthL ls j
          · clear hE
            go_wp2_with fail
            refine wp_region_lexS [] [3, 6, 10, 13, 20, 23, 28, 31] (LaS r gl (ol + k) (ol + j) (.slice (some ⟨gl, ol, none⟩) m c) x y) (by kernel_rfl) (by decide +kernel) (HSS.out _ (HB.trans (by repeat (first | with_reducible exact Below.refl _ _ | with_reducible assumption | refine Below.drew ?_ | refine below_drewN ?_ | refine Below.alloc ?_ (by first | omega | (simp; done) | (simp; omega)) _ | refine below_setRow ?_ (by omega) _ | refine Below.setCell ?_ (by first | omega | (simp; done) | (simp; omega)) _)))) (fun hS => ?_)
            have HBd : Below w.heap.size w wr.drew := HB.trans (by repeat (first | with_reducible exact Below.refl _ _ | with_reducible assumption | refine Below.drew ?_ | refine below_drewN ?_ | refine Below.alloc ?_ (by first | omega | (simp; done) | (simp; omega)) _ | refine below_setRow ?_ (by omega) _ | refine Below.setCell ?_ (by first | omega | (simp; done) | (simp; omega)) _))
            have hbx1 := hbx.step HBd
            have hby1 := hby.step HBd
            generalize wr.drew = z at HBd hbx1 hby1 hS ⊢
            (go_wp2_with (first | (refine wpLexS_nil ?_) | (refine wpLexS_pure rfl (fun _ _ => ?_); go_simp; refine ⟨_, fun w9 hw9 => (by have s1 := hw9.1; have s2 := hw9.2.1; have s3 := hw9.2.2; go_simp; rfl), ?_⟩) | (refine wpLexS_pure0 rfl (fun _ _ => ?_); go_simp; try go_bits) | (refine wpLexS_read rfl (fun _ _ => ?_); go_simp; try go_bits) | (refine wpLexS_loud rfl (fun KL hKL => ?_))))
            refine (refSame_bs hbx1 hby1).mono ?_
            rintro e z1 ⟨rfl, hb1⟩
            replace HBd := HBd.trans (hb1.mono HBd.size)
            clear hb1 hbx1 hby1 hS
            rw [decide_eq_true heq]
            go_wp2_with fail
            refine hKL _ _ (HSS.out _ HBd) (fun _ => ?_)
            have HQ := Lib.hid heq
            clear heq
            (go_wp2_with (first | (refine wpLexS_nil ?_) | (refine wpLexS_pure rfl (fun _ _ => ?_); go_simp; refine ⟨_, fun w9 hw9 => (by have s1 := hw9.1; have s2 := hw9.2.1; have s3 := hw9.2.2; go_simp; rfl), ?_⟩) | (refine wpLexS_pure0 rfl (fun _ _ => ?_); go_simp; try go_bits) | (refine wpLexS_read rfl (fun _ _ => ?_); go_simp; try go_bits) | (refine wpLexS_loud rfl (fun KL hKL => ?_))))
            refine hKL _ _ (HSS.out _ HBd) (fun _ => ?_)
            (go_wp2_with (first | (refine wpLexS_nil ?_) | (refine wpLexS_pure rfl (fun _ _ => ?_); go_simp; refine ⟨_, fun w9 hw9 => (by have s1 := hw9.1; have s2 := hw9.2.1; have s3 := hw9.2.2; go_simp; rfl), ?_⟩) | (refine wpLexS_pure0 rfl (fun _ _ => ?_); go_simp; try go_bits) | (refine wpLexS_read rfl (fun _ _ => ?_); go_simp; try go_bits) | (refine wpLexS_loud rfl (fun KL hKL => ?_))))
            refine hKL _ _ (HSS.out _ HBd) (fun _ => ?_)
            (go_wp2_with (first | (refine wpLexS_nil ?_) | (refine wpLexS_pure rfl (fun _ _ => ?_); go_simp; refine ⟨_, fun w9 hw9 => (by have s1 := hw9.1; have s2 := hw9.2.1; have s3 := hw9.2.2; go_simp; rfl), ?_⟩) | (refine wpLexS_pure0 rfl (fun _ _ => ?_); go_simp; try go_bits) | (refine wpLexS_read rfl (fun _ _ => ?_); go_simp; try go_bits) | (refine wpLexS_loud rfl (fun KL hKL => ?_))))
            exact ⟨⟨j + 1, by go_num, by omega, fun j' h hc => by
              rcases Nat.lt_or_ge j' j with h' | h'
              · exact HNJ.out j' h' hc
              · obtain rfl : j' = j := by omega
                exact hc.2.1 HQ.out, HBd⟩, by simp [intOf]; omega⟩
          · by_cases hdd : D1 = D2
            · simp only [decide_eq_true hdd] at hE
              go_wp2_with fail
              refine wp_region_lexS [] [3, 6, 10, 13, 20, 23, 28, 31] (LaS r gl (ol + k) (ol + j) (.slice (some ⟨gl, ol, none⟩) m c) x y) (by kernel_rfl) (by decide +kernel) (HSS.out _ (HB.trans (by repeat (first | with_reducible exact Below.refl _ _ | with_reducible assumption | refine Below.drew ?_ | refine below_drewN ?_ | refine Below.alloc ?_ (by first | omega | (simp; done) | (simp; omega)) _ | refine below_setRow ?_ (by omega) _ | refine Below.setCell ?_ (by first | omega | (simp; done) | (simp; omega)) _)))) (fun hS => ?_)
              have HBd : Below w.heap.size w wr.drew := HB.trans (by repeat (first | with_reducible exact Below.refl _ _ | with_reducible assumption | refine Below.drew ?_ | refine below_drewN ?_ | refine Below.alloc ?_ (by first | omega | (simp; done) | (simp; omega)) _ | refine below_setRow ?_ (by omega) _ | refine Below.setCell ?_ (by first | omega | (simp; done) | (simp; omega)) _))
              have hbx1 := hbx.step HBd
              have hby1 := hby.step HBd
              generalize wr.drew = z at HBd hbx1 hby1 hS ⊢
              (go_wp2_with (first | (refine wpLexS_nil ?_) | (refine wpLexS_pure rfl (fun _ _ => ?_); go_simp; refine ⟨_, fun w9 hw9 => (by have s1 := hw9.1; have s2 := hw9.2.1; have s3 := hw9.2.2; go_simp; rfl), ?_⟩) | (refine wpLexS_pure0 rfl (fun _ _ => ?_); go_simp; try go_bits) | (refine wpLexS_read rfl (fun _ _ => ?_); go_simp; try go_bits) | (refine wpLexS_loud rfl (fun KL hKL => ?_))))
              refine (refSame_bs hbx1 hby1).mono ?_
              rintro e z1 ⟨rfl, hb1⟩
              replace HBd := HBd.trans (hb1.mono HBd.size)
              clear hb1 hbx1 hby1 hS
              rw [decide_eq_false heq]
              go_wp2_with fail
              refine hKL _ _ (HSS.out _ HBd) (fun _ => ?_)
              have hbx2 := hbx.step HBd
              (go_wp2_with (first | (refine wpLexS_nil ?_) | (refine wpLexS_pure rfl (fun _ _ => ?_); go_simp; refine ⟨_, fun w9 hw9 => (by have s1 := hw9.1; have s2 := hw9.2.1; have s3 := hw9.2.2; go_simp; rfl), ?_⟩) | (refine wpLexS_pure0 rfl (fun _ _ => ?_); go_simp; try go_bits) | (refine wpLexS_read rfl (fun _ _ => ?_); go_simp; try go_bits) | (refine wpLexS_loud rfl (fun KL hKL => ?_))))
              refine (HD1.out _ hbx2).mono ?_
              rintro e z2 ⟨rfl, hb2⟩
              replace HBd := HBd.trans (hb2.mono HBd.size)
              clear hb2 hbx2
              go_wp2_with fail
              refine hKL _ _ (HSS.out _ HBd) (fun _ => ?_)
              have hby2 := hby.step HBd
              (go_wp2_with (first | (refine wpLexS_nil ?_) | (refine wpLexS_pure rfl (fun _ _ => ?_); go_simp; refine ⟨_, fun w9 hw9 => (by have s1 := hw9.1; have s2 := hw9.2.1; have s3 := hw9.2.2; go_simp; rfl), ?_⟩) | (refine wpLexS_pure0 rfl (fun _ _ => ?_); go_simp; try go_bits) | (refine wpLexS_read rfl (fun _ _ => ?_); go_simp; try go_bits) | (refine wpLexS_loud rfl (fun KL hKL => ?_))))
              refine (HD2.out _ hby2).mono ?_
              rintro e z3 ⟨rfl, hb3⟩
              replace HBd := HBd.trans (hb3.mono HBd.size)
              clear hb3 hby2
              go_wp2_with fail
              refine hKL _ _ (HSS.out _ HBd) (fun _ => ?_)
              (go_wp2_with (first | (refine wpLexS_nil ?_) | (refine wpLexS_pure rfl (fun _ _ => ?_); go_simp; refine ⟨_, fun w9 hw9 => (by have s1 := hw9.1; have s2 := hw9.2.1; have s3 := hw9.2.2; go_simp; rfl), ?_⟩) | (refine wpLexS_pure0 rfl (fun _ _ => ?_); go_simp; try go_bits) | (refine wpLexS_read rfl (fun _ _ => ?_); go_simp; try go_bits) | (refine wpLexS_loud rfl (fun KL hKL => ?_))))
              refine wp_region_lexS [] [3, 6, 10, 13] (LaS r gl (ol + k) (ol + j) (.slice (some ⟨gl, ol, none⟩) m c) x y) (by kernel_rfl) (by decide +kernel) (HSS.out _ (HBd.trans (by repeat (first | with_reducible exact Below.refl _ _ | with_reducible assumption | refine Below.drew ?_ | refine below_drewN ?_ | refine Below.alloc ?_ (by first | omega | (simp; done) | (simp; omega)) _ | refine below_setRow ?_ (by omega) _ | refine Below.setCell ?_ (by first | omega | (simp; done) | (simp; omega)) _)))) (fun hS => ?_)
              replace HBd : Below w.heap.size w z3.drew := HBd.trans (by repeat (first | with_reducible exact Below.refl _ _ | with_reducible assumption | refine Below.drew ?_ | refine below_drewN ?_ | refine Below.alloc ?_ (by first | omega | (simp; done) | (simp; omega)) _ | refine below_setRow ?_ (by omega) _ | refine Below.setCell ?_ (by first | omega | (simp; done) | (simp; omega)) _))
              (go_wp2_with (first | (refine wpLexS_nil ?_) | (refine wpLexS_pure rfl (fun _ _ => ?_); go_simp; refine ⟨_, fun w9 hw9 => (by have s1 := hw9.1; have s2 := hw9.2.1; have s3 := hw9.2.2; go_simp; rfl), ?_⟩) | (refine wpLexS_pure0 rfl (fun _ _ => ?_); go_simp; try go_bits) | (refine wpLexS_read rfl (fun _ _ => ?_); go_simp; try go_bits) | (refine wpLexS_loud rfl (fun KL hKL => ?_))))
              refine bodyPost_ret (results_tmp3 rfl _ _ _) rfl ?_
              exact ⟨⟨y, x, true, rfl, .inr ⟨k, j, rfl, by rw [← HM.out]; exact hlt, ⟨hjk, heq, by rw [← HE1.out, ← HE2.out, hdd]⟩, fun i' j' h => HNO.out i' j' h, fun j' h => HNJ.out j' h, hby.step HBd, hbx.step HBd⟩⟩, HBd⟩
            · simp only [decide_eq_false hdd] at hE
              go_wp2_with fail
              refine wp_region_lexS [] [3, 6, 10, 13, 20, 23, 28, 31] (LaS r gl (ol + k) (ol + j) (.slice (some ⟨gl, ol, none⟩) m c) x y) (by kernel_rfl) (by decide +kernel) (HSS.out _ (HB.trans (by repeat (first | with_reducible exact Below.refl _ _ | with_reducible assumption | refine Below.drew ?_ | refine below_drewN ?_ | refine Below.alloc ?_ (by first | omega | (simp; done) | (simp; omega)) _ | refine below_setRow ?_ (by omega) _ | refine Below.setCell ?_ (by first | omega | (simp; done) | (simp; omega)) _)))) (fun hS => ?_)
              have HBd : Below w.heap.size w wr.drew := HB.trans (by repeat (first | with_reducible exact Below.refl _ _ | with_reducible assumption | refine Below.drew ?_ | refine below_drewN ?_ | refine Below.alloc ?_ (by first | omega | (simp; done) | (simp; omega)) _ | refine below_setRow ?_ (by omega) _ | refine Below.setCell ?_ (by first | omega | (simp; done) | (simp; omega)) _))
              have hbx1 := hbx.step HBd
              have hby1 := hby.step HBd
              generalize wr.drew = z at HBd hbx1 hby1 hS ⊢
              (go_wp2_with (first | (refine wpLexS_nil ?_) | (refine wpLexS_pure rfl (fun _ _ => ?_); go_simp; refine ⟨_, fun w9 hw9 => (by have s1 := hw9.1; have s2 := hw9.2.1; have s3 := hw9.2.2; go_simp; rfl), ?_⟩) | (refine wpLexS_pure0 rfl (fun _ _ => ?_); go_simp; try go_bits) | (refine wpLexS_read rfl (fun _ _ => ?_); go_simp; try go_bits) | (refine wpLexS_loud rfl (fun KL hKL => ?_))))
              refine (refSame_bs hbx1 hby1).mono ?_
              rintro e z1 ⟨rfl, hb1⟩
              replace HBd := HBd.trans (hb1.mono HBd.size)
              clear hb1 hbx1 hby1 hS
              rw [decide_eq_false heq]
              go_wp2_with fail
              refine hKL _ _ (HSS.out _ HBd) (fun _ => ?_)
              have hbx2 := hbx.step HBd
              (go_wp2_with (first | (refine wpLexS_nil ?_) | (refine wpLexS_pure rfl (fun _ _ => ?_); go_simp; refine ⟨_, fun w9 hw9 => (by have s1 := hw9.1; have s2 := hw9.2.1; have s3 := hw9.2.2; go_simp; rfl), ?_⟩) | (refine wpLexS_pure0 rfl (fun _ _ => ?_); go_simp; try go_bits) | (refine wpLexS_read rfl (fun _ _ => ?_); go_simp; try go_bits) | (refine wpLexS_loud rfl (fun KL hKL => ?_))))
              refine (HD1.out _ hbx2).mono ?_
              rintro e z2 ⟨rfl, hb2⟩
              replace HBd := HBd.trans (hb2.mono HBd.size)
              clear hb2 hbx2
              go_wp2_with fail
              refine hKL _ _ (HSS.out _ HBd) (fun _ => ?_)
              have hby2 := hby.step HBd
              (go_wp2_with (first | (refine wpLexS_nil ?_) | (refine wpLexS_pure rfl (fun _ _ => ?_); go_simp; refine ⟨_, fun w9 hw9 => (by have s1 := hw9.1; have s2 := hw9.2.1; have s3 := hw9.2.2; go_simp; rfl), ?_⟩) | (refine wpLexS_pure0 rfl (fun _ _ => ?_); go_simp; try go_bits) | (refine wpLexS_read rfl (fun _ _ => ?_); go_simp; try go_bits) | (refine wpLexS_loud rfl (fun KL hKL => ?_))))
              refine (HD2.out _ hby2).mono ?_
              rintro e z3 ⟨rfl, hb3⟩
              replace HBd := HBd.trans (hb3.mono HBd.size)
              clear hb3 hby2
              go_wp2_with fail
              refine hKL _ _ (HSS.out _ HBd) (fun _ => ?_)
              (go_wp2_with (first | (refine wpLexS_nil ?_) | (refine wpLexS_pure rfl (fun _ _ => ?_); go_simp; refine ⟨_, fun w9 hw9 => (by have s1 := hw9.1; have s2 := hw9.2.1; have s3 := hw9.2.2; go_simp; rfl), ?_⟩) | (refine wpLexS_pure0 rfl (fun _ _ => ?_); go_simp; try go_bits) | (refine wpLexS_read rfl (fun _ _ => ?_); go_simp; try go_bits) | (refine wpLexS_loud rfl (fun KL hKL => ?_))))
              exact ⟨⟨j + 1, by go_num, by omega, fun j' h hc => by
                rcases Nat.lt_or_ge j' j with h' | h'
                · exact HNJ.out j' h' hc
                · obtain rfl : j' = j := by omega
                  exact hdd (by rw [HE1.out, HE2.out]; exact hc.2.2), HBd⟩, by simp [intOf]; omega⟩
        · have ej : j = k := by omega
          subst ej
          have hne : ¬ ((j : Int) < j) := by omega
          go_wp2_with fail
          exact ⟨⟨j + 1, by go_num, by omega, fun i j' hi hc => by
            rcases Nat.lt_or_ge i j with h' | h'
            · exact HNO.out i j' h' hc
            · obtain rfl : i = j := by omega
              exact HNJ.out j' hc.1 hc, HB⟩, by simp [intOf]; omega⟩
    · have ek : k = m := by omega
      subst ek
      have hne : ¬ ((k : Int) < k) := by omega
      go_wp2_with fail
      refine bodyPost_ret (results_tmp3 rfl _ _ _) rfl ?_
      exact ⟨⟨_, _, _, rfl, .inl ⟨rfl, rfl, rfl, fun i j hi => HNO.out i j (by rw [HM.out]; exact hi)⟩⟩, HB⟩
end
section
open Go.RowKit
theorem AlikeIs.map {ls : BL} {w w' : World} {a b : Value} {t : Bool} (h : AlikeIs ls w a b t) (hf : ∀ v l, Bs w v l → Bs w' v l) : AlikeIs ls w' a b t := by
  rcases h with h | ⟨i, j, h1, h2, h3, h4, h5, h6, h7⟩
  · exact .inl h
  · exact .inr ⟨i, j, h1, h2, h3, h4, h5, hf _ _ h6, hf _ _ h7⟩
theorem AlikeIs.same {ls : BL} {w : World} {a b a' b' : Value} {t t' : Bool} (h : AlikeIs ls w a b t) (k : AlikeIs ls w a' b' t') : t = t' ∧ ∃ l m, Bs w a l ∧ Bs w a' l ∧ Bs w b m ∧ Bs w b' m := by
  rcases h with ⟨h1, rfl, rfl, h4⟩ | ⟨i, j, h1, h2, h3, h4, h5, h6, h7⟩
  · rcases k with ⟨k1, rfl, rfl, k4⟩ | ⟨i', j', k1, k2, k3, k4, k5, k6, k7⟩
    · exact ⟨by rw [h1, k1], [], [], Bs.nil _, Bs.nil _, Bs.nil _, Bs.nil _⟩
    · exact absurd k3 (h4 _ _ k2)
  · rcases k with ⟨k1, rfl, rfl, k4⟩ | ⟨i', j', k1, k2, k3, k4, k5, k6, k7⟩
    · exact absurd h3 (k4 _ _ h2)
    · have ei : i = i' := by
        rcases Nat.lt_trichotomy i i' with q | q | q
        · exact absurd h3 (k4 _ _ q)
        · exact q
        · exact absurd k3 (h4 _ _ q)
      subst ei
      have ej : j = j' := by
        rcases Nat.lt_trichotomy j j' with q | q | q
        · exact absurd h3 (k5 _ q)
        · exact q
        · exact absurd k3 (h5 _ q)
      subst ej
      exact ⟨by rw [h1, k1], _, _, h6, k6, h7, k7⟩
/-- a log, keeping or not, and what it has kept -/
def LogQ (w : World) (r base : Nat) (n : Int) (kp : Bool) (ls : BL) : Prop := ∃ v, RowIs w r #[.bool kp, .int .i64 n, v] ∧ OwnL w base v (kq kp ls)
def LSumQ (r base : Nat) (n : Int) (kp : Bool) (v : Value) (ls : BL) (b : List UInt8) (w : World) (e : Ending) (w' : World) : Prop :=
  e = .returned (.agg (u8s (shaB b))) ∧ (∃ v', RowIs w' r #[.bool kp, .int .i64 (n + 1), v'] ∧ OwnL w' base v' (kq kp (ls ++ [b])) ∧ (∀ rr, rr < w.heap.size → Kept rr w base v (kq kp ls) → Kept rr w' base v' (kq kp (ls ++ [b]))) ∧ ∀ k, v'.ownBlock = some k → v.ownBlock = some k ∨ w.heap.size ≤ k) ∧ Upd r w w'
theorem LogQ.step {w w' : World} {r base : Nat} {n : Int} {kp : Bool} {ls : BL} (h : LogQ w r base n kp ls) (hb : Below w.heap.size w w') : LogQ w' r base n kp ls := by
  obtain ⟨v, h1, h2⟩ := h
  exact ⟨v, h1.step hb, h2.step hb⟩
theorem LogQ.lt {w : World} {r base : Nat} {n : Int} {kp : Bool} {ls : BL} (h : LogQ w r base n kp ls) : r < w.heap.size := by obtain ⟨v, h1, _⟩ := h; exact h1.lt
theorem LogQ.no8 {w : World} {r base : Nat} {n : Int} {kp : Bool} {ls : BL} (h : LogQ w r base n kp ls) : No8 w r := by
  obtain ⟨v, h1, h2⟩ := h
  obtain ⟨A, c, rfl, _⟩ := h2.slice
  exact no8_row h1 (by simp)
end
section
open Go.RowKit
def LSum0 (r : Nat) (n : Int) (v : Value) (b : List UInt8) (w : World) (e : Ending) (w' : World) : Prop := e = .returned (.agg (u8s (shaB b))) ∧ RowIs w' r #[.bool false, .int .i64 (n + 1), v] ∧ Upd r w w'
set_option maxRecDepth 100000 in
set_option maxHeartbeats 1600000 in
theorem lsum0_any (r : Nat) (n : Int) (v vb : Value) (b : List UInt8) (w : World) (hR : RowIs w r #[.bool false, .int .i64 n, v]) (hn8 : No8 w r) (hvb : Bs w vb b) (hl : b.length ≤ 17592186044416) (h0 : 0 ≤ n) (h1 : n ≤ 1000000) :
    Calls Tryd.prog 35 #[.pointer (some ⟨r, 0, none⟩), vb] w (LSum0 r n v b w) := by
  have hrl := hR.lt
  have hn0 : (0 : Int) ≤ n + 1 := by omega
  have hn1 : (n : Int) + 1 ≤ (4611686018427387905 : Int) := by omega
  obtain ⟨c0, c1, _⟩ := logRow hR
  have fz := fun i => hR.fz i
  have hu : Upd r w ((w.setCell ⟨r, 1, none⟩ (.int .i64 (n + 1))).alloc (.cells (u8s (zeros 32)) 33)) := ((Upd.refl r w).put 1 _).then ((Below.refl _ _).alloc (Nat.le_refl _) _)
  have R0 : RowIs ((w.setCell ⟨r, 1, none⟩ (.int .i64 (n + 1))).alloc (.cells (u8s (zeros 32)) 33)) w.heap.size (u8s (zeros 32)) := RowIs.new' (by simp)
  have R1 : RowIs ((w.setCell ⟨r, 1, none⟩ (.int .i64 (n + 1))).alloc (.cells (u8s (zeros 32)) 33)) r #[.bool false, .int .i64 (n + 1), v] := by
    have := (hR.put 1 (.int .i64 (n + 1))).alloc (.cells (u8s (zeros 32)) 33)
    simpa using this
  have hv := hvb.upd hu hn8
  have hd := digest_any vb b _ hv hl
  obtain ⟨D, hD⟩ : ∃ D, D = shaB b := ⟨_, rfl⟩
  have hkl := shaB_length b
  rw [← hD] at hkl hd
  have HD := Lib.hid hd
  have HDD := Lib.hid hD
  clear hD hd hv hvb
  go_enter Tryd.func35, Tryd.ntmps35
  go_wp2_with fail
  refine HD.out.mono ?_
  rintro e w3 ⟨rfl, hb3⟩
  have hne : w.heap.size ≠ r := by omega
  replace R0 := R0.step hb3
  replace R1 := R1.step hb3
  replace hu := hu.then hb3
  have R0h := R0.has; have R0r := R0.row; have R0l := R0.lt
  go_wp2_with fail
  refine bodyPost_retRow 4 _ w.heap.size 32 rfl rfl (by omega) (by kernel_rfl) (by kernel_rfl) ?_ rfl ?_
  · go_simp
  · go_simp
    exact ⟨by rw [HDD.out], R1.set_ne (Ne.symm hne) _, hu.setRow (Nat.le_refl _) _⟩
theorem lsumQ_any (r base : Nat) (n : Int) (kp : Bool) (v vb : Value) (ls : BL) (b : List UInt8) (w : World) (hR : RowIs w r #[.bool kp, .int .i64 n, v]) (hown : OwnL w base v (kq kp ls)) (hrb : r < base) (hbz : base ≤ w.heap.size) (hkl : ls.length ≤ 1000) (hvb : Bs w vb b) (hl : b.length ≤ 17592186044416) (h1 : 0 ≤ n) (h2 : n ≤ 1000000) :
    Calls Tryd.prog 35 #[.pointer (some ⟨r, 0, none⟩), vb] w (LSumQ r base n kp v ls b w) := by
  have hn8 : No8 w r := by
    obtain ⟨A, c, rfl, _⟩ := hown.slice
    exact no8_row hR (by simp)
  cases kp with
  | true => exact (lsumK_any r base n v vb ls b w hR hown hrb hbz hkl hvb hl h1 h2).mono fun _ _ ⟨a, ⟨v', q1, q2, q3, q4⟩, q5⟩ => ⟨a, ⟨v', q1, q2, q3, fun k hk => .inr (q4 k hk)⟩, q5⟩
  | false =>
    refine (lsum0_any r n v vb b w hR hn8 hvb hl h1 h2).mono fun e w' hq => ?_
    obtain ⟨a, q1, q2⟩ := hq
    have ow' := hown.upd q2 hn8 (fun e => by have := (hown.lt e).1; omega)
    exact ⟨a, ⟨v, q1, ow', fun rr _ _ => Kept.nil ow', fun k hk => .inl hk⟩, q2⟩
end
end Go.Proofs.YtopmdbmnlflpgaaDoor
