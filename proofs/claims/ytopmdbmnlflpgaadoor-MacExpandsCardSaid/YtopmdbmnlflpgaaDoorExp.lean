/- mac.keys: the row of keys, one by one. -/
import Derived.Test.YtopmdbmnlflpgaaDoorExpP
import Derived.Test.YtopmdbmnlflpgaaDoorMSums
import Derived.Test.YtopmdbmnlflpgaaDoorRangeT
import Derived.Test.YtopmdbmnlflpgaaDoorPart
import Derived.Deep.LoopGhost
namespace Go.Proofs.YtopmdbmnlflpgaaDoor
open Go.RowKit Go.Shelf
attribute [local go_sem] Oper.semAt_some
def keysF (a b c : Nat) : Value := .func (.func 99) #[] #[.pointer (some ⟨a, 0, none⟩), .pointer (some ⟨b, 0, none⟩), .pointer (some ⟨c, 0, none⟩)]
theorem keys_any (g : Nat) (key : List UInt8) (A : Option Addr) (n c : Nat) (w : World) :
    Calls Tryd.prog 79 #[.pointer (some ⟨g, 0, none⟩), .agg (u8s key), .slice A n c] w fun e w' =>
      e = .returned (keysF w.heap.size (w.heap.size + 1) (w.heap.size + 1 + 1)) ∧ w' = ((w.alloc (.cells #[.pointer (some ⟨g, 0, none⟩)] 31)).alloc (.cells (u8s key) 33)).alloc (.cells #[.slice A n c] 27) := by
  go_enter Tryd.func79, Tryd.ntmps79
  go_wp2_with fail
  go_ret
  exact ⟨rfl, rfl⟩
/-- an iterator's step: the meter counts, new blocks come -/
structure MSt (g : Nat) (M : Int) (A B : World) : Prop where
  upd : Upd g A B
  oth : KeepsOthers A B
  met : MetB B g M
/-- what a round keeps: all that lay below B0, but for block ob, and what cells came since s -/
structure EKp (B0 ob s : Nat) (A B : World) : Prop where
  size : A.heap.size ≤ B.heap.size
  same : ∀ r, r < B0 → r ≠ ob → B.heap[r]? = A.heap[r]?
  new : ∀ r cs t fr, s ≤ r → A.heap[r]? = some (.cells cs t fr) → B.heap[r]? = some (.cells cs t fr)
theorem EKp.trans {B0 ob s : Nat} {A B C : World} (h : EKp B0 ob s A B) (k : EKp B0 ob s B C) : EKp B0 ob s A C :=
  ⟨Nat.le_trans h.size k.size, fun r h1 h2 => (k.same r h1 h2).trans (h.same r h1 h2), fun r cs t fr hr hc => k.new r cs t fr hr (h.new r cs t fr hr hc)⟩
theorem EKp.putObj {B0 ob s l : Nat} (W : World) (o o' : Obj) (hl : B0 ≤ l) (ho : W.heap[l]? = some o) (hc : o.isCells = false) : EKp B0 ob s W (W.putObj l o') :=
  ⟨by simp, fun r h1 _ => World.putObj_heap_other (by omega), fun r cs t fr _ hcs => by
    by_cases e : r = l
    · subst e; rw [hcs] at ho; cases ho; cases hc
    · rw [World.putObj_heap_other e]; exact hcs⟩
theorem RowIs.ekp {B0 ob s r : Nat} {A B : World} {cs : Array Value} (h : RowIs A r cs) (hk : EKp B0 ob s A B) (h1 : r < B0) (h2 : r ≠ ob) : RowIs B r cs := by
  have e := hk.same r h1 h2
  exact ⟨by unfold IsRow; rw [e]; exact h.row, by unfold rowOf; rw [e]; exact h.has⟩
theorem RowIs.ekn {B0 ob s r : Nat} {A B : World} {cs : Array Value} (h : RowIs A r cs) (hk : EKp B0 ob s A B) (h1 : s ≤ r) : RowIs B r cs := by
  obtain ⟨t, ht⟩ := h.row.heap
  rw [h.has] at ht
  have e := hk.new r _ _ _ h1 ht
  exact ⟨⟨_, _, e⟩, by unfold rowOf; rw [e]; rfl⟩
theorem MetB.ekp {B0 ob s g : Nat} {A B : World} {M : Int} (h : MetB A g M) (hk : EKp B0 ob s A B) (h1 : g < B0) (h2 : g ≠ ob) : MetB B g M := by
  obtain ⟨n, q0, q1, q2⟩ := h
  exact ⟨n, q0, q1, RowIs.ekp q2 hk h1 h2⟩
theorem ShaEnv.ekp {B0 ob s : Nat} {A B : World} (he : ShaEnv A) (hk : EKp B0 ob s A B) (h1 : 0 < B0 ∧ 1 < B0) (h2 : 0 ≠ ob ∧ 1 ≠ ob) : ShaEnv B := ⟨he.rounds.ekp hk h1.1 h2.1, he.start.ekp hk h1.2 h2.2⟩
theorem MSt.of {g : Nat} {M N : Int} {A B : World} (h : MetB A g N) (hu : Upd g A B) (hm : MetB B g M) : MSt g M A B := by
  refine ⟨hu, ⟨hu.size, fun k o hk ho => ?_⟩, hm⟩
  by_cases e : k = g
  · subst e
    obtain ⟨n, _, _, h2⟩ := h
    obtain ⟨t, ht⟩ := RowIs.row h2 |>.heap
    rw [ht] at hk; cases hk; cases ho
  · rw [hu.block k (Array.getElem?_eq_some_iff.1 hk).1 e]; exact hk
/-- bytes that lie below B0, apart from ob -/
def BsK (B0 ob : Nat) (w : World) (v : Value) (l : List UInt8) : Prop := ∃ A c, v = .slice A l.length c ∧ l.length ≤ c ∧ l.length ≤ 140737488351232 ∧ (0 < l.length → ∃ g o, A = some ⟨g, o, none⟩ ∧ g < B0 ∧ g ≠ ob ∧ g < w.heap.size ∧ ∀ j, j < l.length → w.cell? ⟨g, o + j, none⟩ = some (.int .u8 (n8 (at8 l j))))
theorem BsK.bs {B0 ob : Nat} {w : World} {v : Value} {l : List UInt8} (h : BsK B0 ob w v l) : Bs w v l := by
  obtain ⟨A, c, h1, h2, h3, h4⟩ := h
  exact ⟨A, c, h1, h2, h3, fun h0 => by
    obtain ⟨g, o, e, _, _, hg, hc⟩ := h4 h0
    exact ⟨g, o, e, hg, hc⟩⟩
theorem BsK.of {B0 ob : Nat} {w : World} {v : Value} {l : List UInt8} (h : Bs w v l) (hB : w.heap.size ≤ B0) (hob : w.heap.size ≤ ob) : BsK B0 ob w v l := by
  obtain ⟨A, c, h1, h2, h3, h4⟩ := h
  exact ⟨A, c, h1, h2, h3, fun h0 => by
    obtain ⟨g, o, e, hg, hc⟩ := h4 h0
    have hg' : g < w.heap.size := hg
    exact ⟨g, o, e, by omega, by omega, hg, hc⟩⟩
theorem BsK.keep {B0 ob : Nat} {w w' : World} {v : Value} {l : List UInt8} (h : BsK B0 ob w v l) (hs : w.heap.size ≤ w'.heap.size) (hb : ∀ r, r < B0 → r ≠ ob → r < w.heap.size → ∀ i u, w.cell? ⟨r, i, none⟩ = some (.int .u8 u) → w'.cell? ⟨r, i, none⟩ = some (.int .u8 u)) : BsK B0 ob w' v l := by
  obtain ⟨A, c, h1, h2, h3, h4⟩ := h
  exact ⟨A, c, h1, h2, h3, fun h0 => by
    obtain ⟨g, o, e, g1, g2, hg, hc⟩ := h4 h0
    exact ⟨g, o, e, g1, g2, by omega, fun j hj => hb g g1 g2 hg _ _ (hc j hj)⟩⟩
theorem BsK.step {B0 ob : Nat} {w w' : World} {v : Value} {l : List UInt8} (h : BsK B0 ob w v l) (hb : Below w.heap.size w w') : BsK B0 ob w' v l := h.keep hb.size fun r _ _ hr i u hc => by rw [hb.cell (show r < w.heap.size from hr)]; exact hc
theorem BsK.ekp {B0 ob s : Nat} {w w' : World} {v : Value} {l : List UInt8} (h : BsK B0 ob w v l) (hk : EKp B0 ob s w w') : BsK B0 ob w' v l := h.keep hk.size fun r h1 h2 _ i u hc => by rw [World.cell?_of_block (w := w) (hk.same r h1 h2)]; exact hc
theorem BsK.upd {B0 ob g : Nat} {w w' : World} {v : Value} {l : List UInt8} (h : BsK B0 ob w v l) (hu : Upd g w w') (hn : No8 w g) : BsK B0 ob w' v l := h.keep hu.size fun r _ _ hr i u hc => by
  rw [World.cell?_of_block (w := w) (hu.block r hr (fun e => hn _ _ (by rw [← e]; exact hc)))]; exact hc
structure KRows (key info : List UInt8) (vi : Value) (g bm bk bi B0 ob : Nat) (N : Int) (W : World) : Prop where
  m : RowIs W bm #[.pointer (some ⟨g, 0, none⟩)]
  k : RowIs W bk (u8s key)
  i : RowIs W bi #[vi]
  met : MetB W g N
  env : ShaEnv W
  txt : BsK B0 ob W vi info
theorem KRows.step {key info : List UInt8} {vi : Value} {g bm bk bi B0 ob : Nat} {N : Int} {W W' : World} (h : KRows key info vi g bm bk bi B0 ob N W) (hb : Below W.heap.size W W') : KRows key info vi g bm bk bi B0 ob N W' :=
  ⟨h.m.step hb, h.k.step hb, h.i.step hb, h.met.step hb, h.env.step hb, h.txt.step hb⟩
theorem KRows.ekp {key info : List UInt8} {vi : Value} {g bm bk bi B0 ob s : Nat} {N : Int} {W W' : World} (h : KRows key info vi g bm bk bi B0 ob N W) (hk : EKp B0 ob s W W')
    (hob : ∀ r, r = bm ∨ r = bk ∨ r = bi ∨ r = g ∨ r = 0 ∨ r = 1 → r ≠ ob) (hB : ∀ r, r = bm ∨ r = bk ∨ r = bi ∨ r = g ∨ r = 0 ∨ r = 1 → r < B0) : KRows key info vi g bm bk bi B0 ob N W' :=
  ⟨h.m.ekp hk (hB _ (by simp)) (hob _ (by simp)), h.k.ekp hk (hB _ (by simp)) (hob _ (by simp)), h.i.ekp hk (hB _ (by simp)) (hob _ (by simp)), h.met.ekp hk (hB _ (by simp)) (hob _ (by simp)),
    h.env.ekp hk ⟨hB _ (by simp), hB _ (by simp)⟩ ⟨hob _ (by simp), hob _ (by simp)⟩, h.txt.ekp hk⟩
theorem KRows.upd {key info : List UInt8} {vi : Value} {g bm bk bi B0 ob : Nat} {N M : Int} {W W' : World} (h : KRows key info vi g bm bk bi B0 ob N W) (hu : Upd g W W') (hm : MetB W' g M) (h1 : bm ≠ g) (h2 : bk ≠ g) (h3 : bi ≠ g) : KRows key info vi g bm bk bi B0 ob M W' :=
  ⟨h.m.upd hu h1, h.k.upd hu h2, h.i.upd hu h3, hm, h.met.env h.env hu, h.txt.upd hu h.met.no8⟩
theorem cell_setRow_ne (w : World) (g : Nat) (cs : Array Value) (p : Addr) (h : p.block ≠ g) : (w.setRow g cs).cell? p = w.cell? p := World.cell?_of_block (w := w) (by
  simp only [World.setRow, Array.getElem?_modify]
  rw [if_neg (Ne.symm h)])
theorem cell_setCells_ne (g : Nat) (p : Addr) (h : p.block ≠ g) : ∀ (vs : List Value) (o : Nat) (w : World), (w.setCells g o vs).cell? p = w.cell? p
  | [], _, _ => rfl
  | v :: r, o, w => by
    rw [World.setCells, cell_setCells_ne g p h r (o + 1) _]
    exact World.cell?_of_block (w := w) (Below.heap_setCell _ _ _ _ h)
theorem run_stkey {P : Program} {W : World} {tb : Nat} {cs : List Value} {T : List UInt8} (h : RowIs W tb cs.toArray) (hc : cs.length = T.length) : (storeCells ⟨tb, 0, none⟩ (u8s T).toList).run P W = .ok () (W.setRow tb (u8s T)) := by
  have hth := h.there 0 cs.length (by omega)
  have hst := run_storeCells_cells (P := P) tb 0 (u8v T) 0 W (fun j hj => by rw [u8v_length] at hj; simpa using (hth j (by omega)).1) (fun j hj => by rw [u8v_length] at hj; simpa using (hth j (by omega)).2) (fun v hv => u8v_one T v hv)
  rw [Nat.add_zero, setCells_row _ _ _ _ h (by rw [u8v_length]; omega)] at hst
  have e : spl cs 0 (u8v T) = u8v T := by
    unfold spl
    rw [List.take_zero, List.nil_append, Nat.zero_add, List.drop_of_length_le (by rw [u8v_length]; omega), List.append_nil]
  rw [e, ← u8s_toArray] at hst
  rw [u8s_toArray] at hst ⊢
  exact hst
theorem xloadK (ev : Operand → Value) (d : Option Tmp) (x : Operand) (ty : TypeId) (p : String) (af : Array Edge) (g : Option (Nat × Bool)) :
    execOp ev ⟨d, .load 33 x, ty, p, af, g⟩ = loadAgg 33 (ev x) := exec_loadAgg ev d _ x ty p af g
theorem loadK {w : World} {g : Nat} {T : List UInt8} (hr : RowIs w g (u8s T)) (hT : T.length = 32) : (loadAgg 33 (.pointer (some ⟨g, 0, none⟩))).run Tryd.prog w = .ok (.value (.agg (u8s T))) w := by
  have := run_loadAgg (P := Tryd.prog) 32 33 (by omega) (by kernel_rfl) (by kernel_rfl) w g (by rw [hr.has, u8s_size]; exact hT)
  rw [hr.has] at this; exact this
theorem loadK0 (w : World) (g : Nat) (hr : (rowOf w g).size = 32) : (loadAgg 33 (.pointer (some ⟨g, 0, none⟩))).run Tryd.prog w = .ok (.value (.agg (rowOf w g))) w := run_loadAgg 32 _ (by omega) (by kernel_rfl) (by kernel_rfl) w g hr
def KArg (key info : List UInt8) (k : Nat) (vs : Array Value) (_ : World) : Prop := vs = #[.agg (u8s (tK key info (k + 1)))]
def TwoK (p q : Addr) (u v : Value) (w : World) : Prop := w.cell? p = some u ∧ w.cell? q = some v
theorem RowIs.cell0 {w : World} {g : Nat} {v : Value} (h : RowIs w g #[v]) : w.cell? ⟨g, 0, none⟩ = some v := by
  obtain ⟨t, ht⟩ := h.row.heap
  rw [h.has] at ht
  rw [cell_of_row w g 0 _ t (0, 0) ht]; rfl
attribute [local go_sem ↓] xloadK
attribute [local go_sem] loadK0
set_option maxRecDepth 100000 in
set_option maxHeartbeats 1600000 in
theorem keys1_by (key info : List UInt8) (vi : Value) (hkey : key.length = 32) (hinfo : info.length ≤ 200) (g bm bk bi B0 ob n : Nat) (N M : Int) (w : World) (h0 : KRows key info vi g bm bk bi B0 ob N w) (hN0 : 0 ≤ N) (hNM : N + 1020 ≤ M) (hM : M ≤ 900000)
    (hB : w.heap.size ≤ B0) (hob : ∀ r, r = bm ∨ r = bk ∨ r = bi ∨ r = g ∨ r = 0 ∨ r = 1 → r ≠ ob) (hg : bm ≠ g ∧ bk ≠ g ∧ bi ≠ g) :
    SeqBy Fence.wide n Tryd.prog 99 #[.pointer (some ⟨bm, 0, none⟩), .pointer (some ⟨bk, 0, none⟩), .pointer (some ⟨bi, 0, none⟩)] (KArg key info) (MSt g M) (EKp B0 ob) (fun _ => False) True 255 w := by
  intro l J Jx W hW hJ hJx hY hinf hj0
  refine callsIn_wide.2 ?_
  have hrow := h0.step hW
  have hszs : ∀ r, r = bm ∨ r = bk ∨ r = bi ∨ r = g ∨ r = 0 ∨ r = 1 → r < B0 := by
    rintro r (rfl | rfl | rfl | rfl | rfl | rfl)
    · exact Nat.lt_of_lt_of_le h0.m.lt hB
    · exact Nat.lt_of_lt_of_le h0.k.lt hB
    · exact Nat.lt_of_lt_of_le h0.i.lt hB
    · exact Nat.lt_of_lt_of_le h0.met.lt hB
    · exact Nat.lt_of_lt_of_le h0.env.rounds.lt hB
    · exact Nat.lt_of_lt_of_le h0.env.start.lt hB
  clear h0 hB
  have HY := Lib.hid hY
  have HINF := Lib.hid hinf
  have HJ := Lib.hid hJ
  have HOB := Lib.hid hob
  have HSZ := Lib.hid hszs
  have HG := Lib.hid hg
  clear hY hinf hJ hJx hob hszs hg
  obtain ⟨Ai, ni, ci, rfl⟩ : ∃ A n c, vi = .slice A n c := by
    obtain ⟨A, c, h, _⟩ := hrow.txt
    exact ⟨A, _, c, h⟩
  go_enter Tryd.func99, Tryd.ntmps99
  go_wp2_with fail
  go_loopg [5, 8] 255 (fun m v i wr => ∃ k s, m + k = 255 ∧ i = .int .i64 k ∧ J k s wr ∧ s ≤ wr.heap.size ∧ KRows key info (.slice Ai ni ci) g bm bk bi B0 ob (N + 4 * k) wr ∧ Bs wr v (tK key info k))
  case atStart => exact ⟨0, W.heap.size, by omega, rfl, hj0, Nat.le_refl _, by simpa using hrow, Bs.nil _⟩
  case round =>
    clear hrow
    obtain ⟨k, s, hk, rfl, hj, hs, hr, hv⟩ := hrel
    by_cases hlt : k < 255
    · have hk0 : (0 : Int) ≤ k := by omega
      have hk1 : (k : Int) < 255 := by omega
      have hcv : IntKind.u8.wrap ((k : Int) + 1) = n8 (UInt8.ofNat (k + 1)) := by rw [wrap_u8, n8_def, UInt8.toNat_ofNat']; omega
      obtain ⟨Av, cv, rfl, -, -, -⟩ := id hv
      have hm0 := hr.m.cell0
      have hi0 := hr.i.cell0
      -- the keyed digest, wherever its parts lie
      obtain ⟨T, hT⟩ : ∃ T, T = tK key info (k + 1) := ⟨_, rfl⟩
      have hTl : T.length = 32 := by rw [hT, tK_length]
      have hprev := tK_le key info k
      have hsum : ∀ (W : World) (pb bb : Nat), Below wr.heap.size wr W → W.cell? ⟨pb, 0, none⟩ = some (.slice Av (tK key info k).length cv) → W.cell? ⟨pb, 1, none⟩ = some (.slice Ai ni ci) → W.cell? ⟨pb, 2, none⟩ = some (.slice (some ⟨bb, 0, none⟩) 1 1) →
          W.cell? ⟨bb, 0, none⟩ = some (.int .u8 (n8 (UInt8.ofNat (k + 1)))) → wr.heap.size ≤ pb → Calls Tryd.prog 32 #[.pointer (some ⟨g, 0, none⟩), .slice (some ⟨bk, 0, none⟩) 32 32, .slice (some ⟨pb, 0, none⟩) 3 3] W (MSum g (N + 4 * k + 4) T W) := fun W pb bb hb p0 p1 p2 pbb hpb => by
        have hr' := hr.step hb
        have hlist : BsLx g W (.slice (some ⟨pb, 0, none⟩) 3 3) [tK key info k, info, [UInt8.ofNat (k + 1)]] := by
          refine ⟨_, 3, rfl, Nat.le_refl _, by simp, fun _ => ⟨pb, 0, rfl, by have := hr.met.lt; omega, World.block_lt_of_cell? W _ p0, fun i hi => ?_⟩⟩
          have hi' : i < 3 := hi
          rw [Nat.zero_add]
          have : i = 0 ∨ i = 1 ∨ i = 2 := by omega
          rcases this with rfl | rfl | rfl
          · exact ⟨_, p0, by simpa [nthL_def] using hv.step hb⟩
          · exact ⟨_, p1, by simpa [nthL_def] using hr'.txt.bs⟩
          · exact ⟨_, p2, by simpa [nthL_def] using Bs.one (i := n8 (UInt8.ofNat (k + 1))) (UInt8.ofNat (k + 1)) pbb rfl (World.block_lt_of_cell? W _ pbb)⟩
        have hfl : [tK key info k, info, [UInt8.ofNat (k + 1)]].flatten = tK key info k ++ info ++ [UInt8.ofNat (k + 1)] := by simp
        have := mac_any g (N + 4 * k) _ _ key [tK key info k, info, [UInt8.ofNat (k + 1)]] W hr'.met hr'.env (Bs.row hr'.k 32 32 hkey.symm (Nat.le_refl _) (by omega)) hlist (by omega) (by rw [hfl]; simp; omega) (by omega)
        rw [hfl] at this
        rw [hT]
        exact this
      have hcw : IntKind.i64.wrap ((k : Int) + 1) = (k : Int) + 1 := by rw [IntKind.wrap_i64]; omega
      have hstk : ∀ (W : World) (tb : Nat), RowIs W tb (u8s (zeros 32)) → (storeCells ⟨tb, 0, none⟩ (u8s T).toList).run Tryd.prog W = .ok () (W.setRow tb (u8s T)) := fun W tb h => run_stkey (cs := u8v (zeros 32)) (by rw [← u8s_toArray]; exact h) (by rw [u8v_length, zeros_length, hTl])
      have hnew : ∀ (W : World), RowIs (W.alloc (.cells (u8s (zeros 32)) 33)) W.heap.size (u8s (zeros 32)) := fun W => RowIs.new _ _ _
      have hone : ∀ v, v ∈ (u8s T).toList → v.oneCell' = true := fun v hv => u8v_one T v (by rw [u8s_toArray] at hv; simpa using hv)
      have hlen : (u8s T).toList.length = 32 := by rw [u8s_toArray]; simp only [u8v_length]; exact hTl
      have hthere : ∀ (W : World) (tb : Nat), RowIs W tb (u8s (zeros 32)) → W.there tb 0 32 := fun W tb h => RowIs.there (cs := u8v (zeros 32)) (by rw [← u8s_toArray]; exact h) 0 _ (by rw [u8v_length, zeros_length]; omega)
      have hin : Option.map (fun x => x.size) (Tryd.prog.info? 33) = some 32 := by kernel_rfl
      have HTH := Lib.hid hthere
      clear hthere
      have KS := Lib.hid hsum
      have HT := Lib.hid hT
      have hgl := hr.met.lt
      have hbml := hr.m.lt
      have hbil := hr.i.lt
      have HRR := Lib.hid hr
      have hkrow := hr.k.has
      have hkr := hr.k.row
      obtain ⟨tl, htl⟩ : ∃ tl, (tK key info k).length = tl := ⟨_, rfl⟩
      rw [htl] at KS
      rw [htl]
      clear hsum hT hv hr htl
      refine (wpIn_wide (n := n)).1 ?_
      gi_wp2_with fail
      refine wpIn_wide.2 ?_
      go_region_held3 (fun (W : World) => W.cell? ⟨bm, 0, none⟩ = some (.pointer (some ⟨g, 0, none⟩)) ∧ W.cell? ⟨bi, 0, none⟩ = some (.slice Ai ni ci)) (refine ⟨?_, ?_⟩ <;> first | assumption | exact hm2 _ | exact hi2 _ | (go_simp; done) | ((first | rw [cell_setCells_ne _ _ (by simp; omega)] | rw [cell_setRow_ne _ _ _ _ (by simp; omega)]); (first | assumption | exact hm2 _ | exact hi2 _ | (go_simp; done))) | exact (RowIs.step HRR.out.m (by repeat (first | with_reducible exact Below.refl _ _ | with_reducible assumption | refine Below.drew ?_ | refine below_drewN ?_ | refine Below.alloc ?_ (by first | omega | (simp; done) | (simp; omega)) _ | refine below_setRow ?_ (by omega) _ | refine Below.setCell ?_ (by first | omega | (simp; done) | (simp; omega)) _))).cell0 | exact (RowIs.step HRR.out.i (by repeat (first | with_reducible exact Below.refl _ _ | with_reducible assumption | refine Below.drew ?_ | refine below_drewN ?_ | refine Below.alloc ?_ (by first | omega | (simp; done) | (simp; omega)) _ | refine below_setRow ?_ (by omega) _ | refine Below.setCell ?_ (by first | omega | (simp; done) | (simp; omega)) _))).cell0) ((go_at_call 32; (first | (refine (KS.out _ _ wr.heap.size (by repeat (first | with_reducible exact Below.refl _ _ | with_reducible assumption | refine Below.drew ?_ | refine below_drewN ?_ | refine Below.alloc ?_ (by first | omega | (simp; done) | (simp; omega)) _ | refine below_setRow ?_ (by omega) _ | refine Below.setCell ?_ (by first | omega | (simp; done) | (simp; omega)) _)) ?_ ?_ ?_ ?_ (by omega)).mono ?_; (next => (go_simp; done)); (next => (go_simp; done)); (next => (go_simp; done)); (next => (go_simp; done))) | (refine (KS.out _ _ (wr.heap.size + 1) (by repeat (first | with_reducible exact Below.refl _ _ | with_reducible assumption | refine Below.drew ?_ | refine below_drewN ?_ | refine Below.alloc ?_ (by first | omega | (simp; done) | (simp; omega)) _ | refine below_setRow ?_ (by omega) _ | refine Below.setCell ?_ (by first | omega | (simp; done) | (simp; omega)) _)) ?_ ?_ ?_ ?_ (by omega)).mono ?_; (next => (go_simp; done)); (next => (go_simp; done)); (next => (go_simp; done)); (next => (go_simp; done)))); rintro e w' ⟨rfl, hm', hu'⟩; have hm1 := (RowIs.upd (RowIs.step HRR.out.m (by repeat (first | with_reducible exact Below.refl _ _ | with_reducible assumption | refine Below.drew ?_ | refine below_drewN ?_ | refine Below.alloc ?_ (by first | omega | (simp; done) | (simp; omega)) _ | refine below_setRow ?_ (by omega) _ | refine Below.setCell ?_ (by first | omega | (simp; done) | (simp; omega)) _))) hu' HG.out.1).cell0; have hi1 := (RowIs.upd (RowIs.step HRR.out.i (by repeat (first | with_reducible exact Below.refl _ _ | with_reducible assumption | refine Below.drew ?_ | refine below_drewN ?_ | refine Below.alloc ?_ (by first | omega | (simp; done) | (simp; omega)) _ | refine below_setRow ?_ (by omega) _ | refine Below.setCell ?_ (by first | omega | (simp; done) | (simp; omega)) _))) hu' HG.out.2.2).cell0; have hbm' : bm < w'.heap.size := Nat.lt_of_lt_of_le (Nat.lt_of_lt_of_le hbml (Below.size (w := wr) (w' := _) (B := wr.heap.size) (by repeat (first | with_reducible exact Below.refl _ _ | with_reducible assumption | refine Below.drew ?_ | refine below_drewN ?_ | refine Below.alloc ?_ (by first | omega | (simp; done) | (simp; omega)) _ | refine below_setRow ?_ (by omega) _ | refine Below.setCell ?_ (by first | omega | (simp; done) | (simp; omega)) _)))) hu'.size; have hbi' : bi < w'.heap.size := Nat.lt_of_lt_of_le (Nat.lt_of_lt_of_le hbil (Below.size (w := wr) (w' := _) (B := wr.heap.size) (by repeat (first | with_reducible exact Below.refl _ _ | with_reducible assumption | refine Below.drew ?_ | refine below_drewN ?_ | refine Below.alloc ?_ (by first | omega | (simp; done) | (simp; omega)) _ | refine below_setRow ?_ (by omega) _ | refine Below.setCell ?_ (by first | omega | (simp; done) | (simp; omega)) _)))) hu'.size; (try have hT0 : RowIs w' wr.heap.size (u8s (zeros 32)) := RowIs.upd (by exact (((RowIs.new' (by simp)).alloc _).alloc _).drew) hu' (by omega)); (try have hT1 : RowIs w' (wr.heap.size + 1) (u8s (zeros 32)) := RowIs.upd (by exact ((RowIs.new' (by simp)).alloc _).drew) hu' (by omega)); (try have hT2 : RowIs w' (wr.heap.size + 1 + 1) (u8s (zeros 32)) := RowIs.upd (by exact (RowIs.new' (by simp)).drew) hu' (by omega)); have hm2 : ∀ o, (w'.alloc o).cell? ⟨bm, 0, none⟩ = some (.pointer (some ⟨g, 0, none⟩)) := fun o => (Below.cell (p := ⟨bm, 0, none⟩) ((Below.refl w'.heap.size w').alloc (Nat.le_refl _) o) hbm').trans hm1; have hi2 : ∀ o, (w'.alloc o).cell? ⟨bi, 0, none⟩ = some (.slice Ai ni ci) := fun o => (Below.cell (p := ⟨bi, 0, none⟩) ((Below.refl w'.heap.size w').alloc (Nat.le_refl _) o) hbi').trans hi1; (try have ht0 := HTH.out _ _ hT0); (try have ht1 := HTH.out _ _ hT1); (try have ht2 := HTH.out _ _ hT2); (try have ht3 := HTH.out _ _ (hnew w'))))
      · obtain ⟨W4, hW4⟩ : ∃ W4, W4 = (w'.alloc (.cells (u8s (zeros 32)) 33)).setCells (w'.heap.size) 0 (u8s T).toList := ⟨_, rfl⟩
        have hz : RowIs (w'.alloc (.cells (u8s (zeros 32)) 33)) (w'.heap.size) (u8v (zeros 32)).toArray := by rw [← u8s_toArray]; exact RowIs.new _ _ _
        have eW : W4 = (w'.alloc (.cells (u8s (zeros 32)) 33)).setRow (w'.heap.size) (u8s T) := by
          rw [hW4]
          have e1 : (u8s T).toList = u8v T := by rw [u8s_toArray]
          have e2 : spl (u8v (zeros 32)) 0 (u8v T) = u8v T := by
            unfold spl
            rw [List.take_zero, List.nil_append, Nat.zero_add, List.drop_of_length_le (by rw [u8v_length, u8v_length, zeros_length]; omega), List.append_nil]
          rw [e1, setCells_row _ _ _ _ hz (by rw [u8v_length, u8v_length, zeros_length]; omega), e2, show u8s T = (u8v T).toArray from by rw [u8s_toArray]]
        rw [← hW4]
        have hsw := hu'.size
        simp at hsw
        have htb : wr.heap.size ≤ w'.heap.size := by omega
        have htg : w'.heap.size ≠ g := by omega
        have hR4 : RowIs W4 (w'.heap.size) (u8s T) := by rw [eW]; exact hz.set _
        have hU4 : Upd g wr W4 := by rw [eW]; exact (((Upd.of (g := g) (by repeat (first | with_reducible exact Below.refl _ _ | with_reducible assumption | refine Below.drew ?_ | refine below_drewN ?_ | refine Below.alloc ?_ (by first | omega | (simp; done) | (simp; omega)) _ | refine below_setRow ?_ (by omega) _ | refine Below.setCell ?_ (by first | omega | (simp; done) | (simp; omega)) _))).trans hu').then ((Below.refl _ _).alloc (Nat.le_refl _) _)).setRow (by omega) _
        have hM4 : MetB W4 g (N + 4 * k + 4) := by
          rw [eW]
          obtain ⟨n0, q0, q1, q2⟩ := hm'
          exact ⟨n0, q0, q1, RowIs.set_ne (RowIs.alloc q2 _) (Ne.symm htg) _⟩
        clear hW4 eW hz hm1 hi1 hbm' hbi' hm2 hi2 hm' hsw hstk hnew hone hlen hin
        have hj1 := HJ.out k s _ _ hj (MSt.of HRR.out.met hU4 (hM4.mono (by omega)))
        have hs4 : s ≤ W4.heap.size := Nat.le_trans hs hU4.size
        have hr4 := HRR.out.upd hU4 hM4 HG.out.1 HG.out.2.1 HG.out.2.2
        have hTh := hR4.has
        have hTr := hR4.row
        obtain ⟨fn, tmps, assign, body, hy, hRR⟩ := HY.out k s _ W4 hlt hj1 hs4 (show KArg key info k #[.agg (u8s T)] W4 by unfold KArg; rw [HT.out])
        have hlk : (u8s T).size = 32 := by rw [u8s_size]; exact hTl
        gi_wp2_with fail
        refine ⟨(fun h => by cases h), hRR.mono ?_⟩
        rintro e W3 (⟨rfl, hj3, hk3⟩ | ⟨rfl, hx3⟩)
        · have hr5 := hr4.ekp hk3 HOB.out HSZ.out
          have hT5 := hR4.ekn hk3 (Nat.le_trans hs htb)
          have hr6 : KRows key info (.slice Ai ni ci) g bm bk bi B0 ob (N + 4 * ((k + 1 : Nat) : Int)) W3 := by
            rw [show N + 4 * ((k + 1 : Nat) : Int) = N + 4 * k + 4 by omega]; exact hr5
          clear hy hRR hj1 hs4 hr4 hTh hTr hlk hR4 hU4 hM4 hk3
          gi_wp2_with fail
          go_roundg (gk - 1)
          case measure => omega
          case rel => exact ⟨k + 1, W3.heap.size, by omega, by go_num, hj3, Nat.le_refl _, hr6, by rw [← HT.out]; exact Bs.row hT5 32 32 hTl.symm (Nat.le_refl _) (by omega)⟩
        · clear hy hRR hj1 hs4 hr4 hTh hTr hlk hR4 hU4 hM4
          gi_wp2_with fail
          refine bodyPost_ret (results_none rfl _ _ _) rfl ?_
          exact ⟨⟨_, rfl⟩, .inr ⟨k + 1, hx3⟩⟩
      · obtain ⟨W4, hW4⟩ : ∃ W4, W4 = (w').setCells (wr.heap.size + 1 + 1) 0 (u8s T).toList := ⟨_, rfl⟩
        have hz : RowIs (w') (wr.heap.size + 1 + 1) (u8v (zeros 32)).toArray := by rw [← u8s_toArray]; exact hT2
        have eW : W4 = (w').setRow (wr.heap.size + 1 + 1) (u8s T) := by
          rw [hW4]
          have e1 : (u8s T).toList = u8v T := by rw [u8s_toArray]
          have e2 : spl (u8v (zeros 32)) 0 (u8v T) = u8v T := by
            unfold spl
            rw [List.take_zero, List.nil_append, Nat.zero_add, List.drop_of_length_le (by rw [u8v_length, u8v_length, zeros_length]; omega), List.append_nil]
          rw [e1, setCells_row _ _ _ _ hz (by rw [u8v_length, u8v_length, zeros_length]; omega), e2, show u8s T = (u8v T).toArray from by rw [u8s_toArray]]
        rw [← hW4]
        have hsw := hu'.size
        simp at hsw
        have htb : wr.heap.size ≤ wr.heap.size + 1 + 1 := by omega
        have htg : wr.heap.size + 1 + 1 ≠ g := by omega
        have hR4 : RowIs W4 (wr.heap.size + 1 + 1) (u8s T) := by rw [eW]; exact hz.set _
        have hU4 : Upd g wr W4 := by rw [eW]; exact ((Upd.of (g := g) (by repeat (first | with_reducible exact Below.refl _ _ | with_reducible assumption | refine Below.drew ?_ | refine below_drewN ?_ | refine Below.alloc ?_ (by first | omega | (simp; done) | (simp; omega)) _ | refine below_setRow ?_ (by omega) _ | refine Below.setCell ?_ (by first | omega | (simp; done) | (simp; omega)) _))).trans hu').setRow (by omega) _
        have hM4 : MetB W4 g (N + 4 * k + 4) := by
          rw [eW]
          obtain ⟨n0, q0, q1, q2⟩ := hm'
          exact ⟨n0, q0, q1, RowIs.set_ne q2 (Ne.symm htg) _⟩
        clear hW4 eW hz hm1 hi1 hbm' hbi' hm2 hi2 hm' hsw hstk hnew hone hlen hin
        have hj1 := HJ.out k s _ _ hj (MSt.of HRR.out.met hU4 (hM4.mono (by omega)))
        have hs4 : s ≤ W4.heap.size := Nat.le_trans hs hU4.size
        have hr4 := HRR.out.upd hU4 hM4 HG.out.1 HG.out.2.1 HG.out.2.2
        have hTh := hR4.has
        have hTr := hR4.row
        obtain ⟨fn, tmps, assign, body, hy, hRR⟩ := HY.out k s _ W4 hlt hj1 hs4 (show KArg key info k #[.agg (u8s T)] W4 by unfold KArg; rw [HT.out])
        have hlk : (u8s T).size = 32 := by rw [u8s_size]; exact hTl
        gi_wp2_with fail
        refine ⟨(fun h => by cases h), hRR.mono ?_⟩
        rintro e W3 (⟨rfl, hj3, hk3⟩ | ⟨rfl, hx3⟩)
        · have hr5 := hr4.ekp hk3 HOB.out HSZ.out
          have hT5 := hR4.ekn hk3 (Nat.le_trans hs htb)
          have hr6 : KRows key info (.slice Ai ni ci) g bm bk bi B0 ob (N + 4 * ((k + 1 : Nat) : Int)) W3 := by
            rw [show N + 4 * ((k + 1 : Nat) : Int) = N + 4 * k + 4 by omega]; exact hr5
          clear hy hRR hj1 hs4 hr4 hTh hTr hlk hR4 hU4 hM4 hk3
          gi_wp2_with fail
          go_roundg (gk - 1)
          case measure => omega
          case rel => exact ⟨k + 1, W3.heap.size, by omega, by go_num, hj3, Nat.le_refl _, hr6, by rw [← HT.out]; exact Bs.row hT5 32 32 hTl.symm (Nat.le_refl _) (by omega)⟩
        · clear hy hRR hj1 hs4 hr4 hTh hTr hlk hR4 hU4 hM4
          gi_wp2_with fail
          refine bodyPost_ret (results_none rfl _ _ _) rfl ?_
          exact ⟨⟨_, rfl⟩, .inr ⟨k + 1, hx3⟩⟩
      · obtain ⟨W4, hW4⟩ : ∃ W4, W4 = (w').setCells (wr.heap.size + 1) 0 (u8s T).toList := ⟨_, rfl⟩
        have hz : RowIs (w') (wr.heap.size + 1) (u8v (zeros 32)).toArray := by rw [← u8s_toArray]; exact hT1
        have eW : W4 = (w').setRow (wr.heap.size + 1) (u8s T) := by
          rw [hW4]
          have e1 : (u8s T).toList = u8v T := by rw [u8s_toArray]
          have e2 : spl (u8v (zeros 32)) 0 (u8v T) = u8v T := by
            unfold spl
            rw [List.take_zero, List.nil_append, Nat.zero_add, List.drop_of_length_le (by rw [u8v_length, u8v_length, zeros_length]; omega), List.append_nil]
          rw [e1, setCells_row _ _ _ _ hz (by rw [u8v_length, u8v_length, zeros_length]; omega), e2, show u8s T = (u8v T).toArray from by rw [u8s_toArray]]
        rw [← hW4]
        have hsw := hu'.size
        simp at hsw
        have htb : wr.heap.size ≤ wr.heap.size + 1 := by omega
        have htg : wr.heap.size + 1 ≠ g := by omega
        have hR4 : RowIs W4 (wr.heap.size + 1) (u8s T) := by rw [eW]; exact hz.set _
        have hU4 : Upd g wr W4 := by rw [eW]; exact ((Upd.of (g := g) (by repeat (first | with_reducible exact Below.refl _ _ | with_reducible assumption | refine Below.drew ?_ | refine below_drewN ?_ | refine Below.alloc ?_ (by first | omega | (simp; done) | (simp; omega)) _ | refine below_setRow ?_ (by omega) _ | refine Below.setCell ?_ (by first | omega | (simp; done) | (simp; omega)) _))).trans hu').setRow (by omega) _
        have hM4 : MetB W4 g (N + 4 * k + 4) := by
          rw [eW]
          obtain ⟨n0, q0, q1, q2⟩ := hm'
          exact ⟨n0, q0, q1, RowIs.set_ne q2 (Ne.symm htg) _⟩
        clear hW4 eW hz hm1 hi1 hbm' hbi' hm2 hi2 hm' hsw hstk hnew hone hlen hin
        have hj1 := HJ.out k s _ _ hj (MSt.of HRR.out.met hU4 (hM4.mono (by omega)))
        have hs4 : s ≤ W4.heap.size := Nat.le_trans hs hU4.size
        have hr4 := HRR.out.upd hU4 hM4 HG.out.1 HG.out.2.1 HG.out.2.2
        have hTh := hR4.has
        have hTr := hR4.row
        obtain ⟨fn, tmps, assign, body, hy, hRR⟩ := HY.out k s _ W4 hlt hj1 hs4 (show KArg key info k #[.agg (u8s T)] W4 by unfold KArg; rw [HT.out])
        have hlk : (u8s T).size = 32 := by rw [u8s_size]; exact hTl
        gi_wp2_with fail
        refine ⟨(fun h => by cases h), hRR.mono ?_⟩
        rintro e W3 (⟨rfl, hj3, hk3⟩ | ⟨rfl, hx3⟩)
        · have hr5 := hr4.ekp hk3 HOB.out HSZ.out
          have hT5 := hR4.ekn hk3 (Nat.le_trans hs htb)
          have hr6 : KRows key info (.slice Ai ni ci) g bm bk bi B0 ob (N + 4 * ((k + 1 : Nat) : Int)) W3 := by
            rw [show N + 4 * ((k + 1 : Nat) : Int) = N + 4 * k + 4 by omega]; exact hr5
          clear hy hRR hj1 hs4 hr4 hTh hTr hlk hR4 hU4 hM4 hk3
          gi_wp2_with fail
          go_roundg (gk - 1)
          case measure => omega
          case rel => exact ⟨k + 1, W3.heap.size, by omega, by go_num, hj3, Nat.le_refl _, hr6, by rw [← HT.out]; exact Bs.row hT5 32 32 hTl.symm (Nat.le_refl _) (by omega)⟩
        · clear hy hRR hj1 hs4 hr4 hTh hTr hlk hR4 hU4 hM4
          gi_wp2_with fail
          refine bodyPost_ret (results_none rfl _ _ _) rfl ?_
          exact ⟨⟨_, rfl⟩, .inr ⟨k + 1, hx3⟩⟩
      · obtain ⟨W4, hW4⟩ : ∃ W4, W4 = (w').setCells (wr.heap.size) 0 (u8s T).toList := ⟨_, rfl⟩
        have hz : RowIs (w') (wr.heap.size) (u8v (zeros 32)).toArray := by rw [← u8s_toArray]; exact hT0
        have eW : W4 = (w').setRow (wr.heap.size) (u8s T) := by
          rw [hW4]
          have e1 : (u8s T).toList = u8v T := by rw [u8s_toArray]
          have e2 : spl (u8v (zeros 32)) 0 (u8v T) = u8v T := by
            unfold spl
            rw [List.take_zero, List.nil_append, Nat.zero_add, List.drop_of_length_le (by rw [u8v_length, u8v_length, zeros_length]; omega), List.append_nil]
          rw [e1, setCells_row _ _ _ _ hz (by rw [u8v_length, u8v_length, zeros_length]; omega), e2, show u8s T = (u8v T).toArray from by rw [u8s_toArray]]
        rw [← hW4]
        have hsw := hu'.size
        simp at hsw
        have htb : wr.heap.size ≤ wr.heap.size := by omega
        have htg : wr.heap.size ≠ g := by omega
        have hR4 : RowIs W4 (wr.heap.size) (u8s T) := by rw [eW]; exact hz.set _
        have hU4 : Upd g wr W4 := by rw [eW]; exact ((Upd.of (g := g) (by repeat (first | with_reducible exact Below.refl _ _ | with_reducible assumption | refine Below.drew ?_ | refine below_drewN ?_ | refine Below.alloc ?_ (by first | omega | (simp; done) | (simp; omega)) _ | refine below_setRow ?_ (by omega) _ | refine Below.setCell ?_ (by first | omega | (simp; done) | (simp; omega)) _))).trans hu').setRow (by omega) _
        have hM4 : MetB W4 g (N + 4 * k + 4) := by
          rw [eW]
          obtain ⟨n0, q0, q1, q2⟩ := hm'
          exact ⟨n0, q0, q1, RowIs.set_ne q2 (Ne.symm htg) _⟩
        clear hW4 eW hz hm1 hi1 hbm' hbi' hm2 hi2 hm' hsw hstk hnew hone hlen hin
        have hj1 := HJ.out k s _ _ hj (MSt.of HRR.out.met hU4 (hM4.mono (by omega)))
        have hs4 : s ≤ W4.heap.size := Nat.le_trans hs hU4.size
        have hr4 := HRR.out.upd hU4 hM4 HG.out.1 HG.out.2.1 HG.out.2.2
        have hTh := hR4.has
        have hTr := hR4.row
        obtain ⟨fn, tmps, assign, body, hy, hRR⟩ := HY.out k s _ W4 hlt hj1 hs4 (show KArg key info k #[.agg (u8s T)] W4 by unfold KArg; rw [HT.out])
        have hlk : (u8s T).size = 32 := by rw [u8s_size]; exact hTl
        gi_wp2_with fail
        refine ⟨(fun h => by cases h), hRR.mono ?_⟩
        rintro e W3 (⟨rfl, hj3, hk3⟩ | ⟨rfl, hx3⟩)
        · have hr5 := hr4.ekp hk3 HOB.out HSZ.out
          have hT5 := hR4.ekn hk3 (Nat.le_trans hs htb)
          have hr6 : KRows key info (.slice Ai ni ci) g bm bk bi B0 ob (N + 4 * ((k + 1 : Nat) : Int)) W3 := by
            rw [show N + 4 * ((k + 1 : Nat) : Int) = N + 4 * k + 4 by omega]; exact hr5
          clear hy hRR hj1 hs4 hr4 hTh hTr hlk hR4 hU4 hM4 hk3
          gi_wp2_with fail
          go_roundg (gk - 1)
          case measure => omega
          case rel => exact ⟨k + 1, W3.heap.size, by omega, by go_num, hj3, Nat.le_refl _, hr6, by rw [← HT.out]; exact Bs.row hT5 32 32 hTl.symm (Nat.le_refl _) (by omega)⟩
        · clear hy hRR hj1 hs4 hr4 hTh hTr hlk hR4 hU4 hM4
          gi_wp2_with fail
          refine bodyPost_ret (results_none rfl _ _ _) rfl ?_
          exact ⟨⟨_, rfl⟩, .inr ⟨k + 1, hx3⟩⟩
    · exact (HINF.out trivial s wr (by rw [show 255 = k by omega]; exact hj)).elim
end Go.Proofs.YtopmdbmnlflpgaaDoor
