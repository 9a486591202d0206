/- Layer 4: Mix. -/
import Derived.Test.YtbiiffendpkidaaDoorMix
import Derived.Test.YtbiiffendpkidaaDoorRangeT
namespace Go.Proofs.YtbiiffendpkidaaDoor
open Go.RowKit Go.Shelf
attribute [local go_sem ↓] exec_load_key exec_load_b12 exec_load_b64 exec_store_b64
attribute [local go_sem] load_key load_b12 load_b64 store_b64 z8_length zero64
attribute [local go_sem] Oper.semAt_some
def MixRes (w : World) (l : List UInt8) (e : Ending) (w' : World) : Prop := ∃ v, e = .returned (.tuple #[v, .int .i64 0]) ∧ Bs w' v l ∧ Below w.heap.size w w'
structure MInv (key : List UInt8) (ctr : UInt32) (nonce t : List UInt8) (n0 B0 tb ob : Nat) (w : World) (vt : Value) (k : Nat) (W : World) : Prop where
  bel : Below n0 w W
  txt : RowIs W tb #[vt]
  sz : B0 ≤ W.heap.size
  big : k = 0 ∨ 64 * k < t.length
  out : ∃ v, RowIs W ob #[v] ∧ Own8 5 W B0 v ((mixB key ctr nonce t).take (64 * k))
theorem BKp.trans {B0 ob : Nat} {A B C : World} (h : BKp B0 ob A B) (k : BKp B0 ob B C) : BKp B0 ob A C :=
  ⟨Nat.le_trans h.size k.size, fun r h1 h2 => (k.same r h1 h2).trans (h.same r h1 h2)⟩
theorem BKp.putObj {B0 ob l : Nat} (W : World) (o : Obj) (hl : B0 ≤ l) : BKp B0 ob W (W.putObj l o) := ⟨by simp, fun r h1 _ => World.putObj_heap_other (by omega)⟩
section
variable {key nonce t : List UInt8} {ctr : UInt32} {B0 tb ob bc k : Nat} {w W W' : World} {vt : Value}
theorem MInv.turn (h : MInv key ctr nonce t w.heap.size B0 tb ob w vt k W) (hB : w.heap.size ≤ B0) (ht : Turn B0 W W') : MInv key ctr nonce t w.heap.size B0 tb ob w vt k W' := by
  obtain ⟨v, h1, h2⟩ := h.out
  exact ⟨ht.below h.bel (Nat.le_refl _) hB, h.txt.ck ht.ck, Nat.le_trans h.sz ht.ck.size, h.big, v, h1.ck ht.ck, h2.ck ht.ck⟩
theorem MInv.st (h : MInv key ctr nonce t w.heap.size B0 tb ob w vt k W) (hb : w.heap.size ≤ bc) (hB : bc < B0) (h1 : tb ≠ bc) (h2 : ob ≠ bc) (hs : BSt bc W W') : MInv key ctr nonce t w.heap.size B0 tb ob w vt k W' := by
  obtain ⟨v, h3, h4⟩ := h.out
  exact ⟨hs.upd.below h.bel hb h.bel.size, h.txt.upd hs.upd h1, Nat.le_trans h.sz hs.upd.size, h.big, v, h3.upd hs.upd h2, h4.keep fun j hj hl => hs.upd.block j hl (by omega)⟩
end
/-- two cells -/
def TwoC (p q : Addr) (u v : Value) (w : World) : Prop := w.cell? p = some u ∧ w.cell? q = some v
structure MFin (key : List UInt8) (ctr : UInt32) (nonce t : List UInt8) (n0 B0 ob : Nat) (w W : World) : Prop where
  bel : Below n0 w W
  out : ∃ v, RowIs W ob #[v] ∧ Own8 5 W B0 v (mixB key ctr nonce t)
section
variable {key nonce t : List UInt8} {ctr : UInt32} {B0 tb ob bc k : Nat} {w W W' : World} {vt : Value}
theorem MFin.turn (h : MFin key ctr nonce t w.heap.size B0 ob w W) (hB : w.heap.size ≤ B0) (ht : Turn B0 W W') : MFin key ctr nonce t w.heap.size B0 ob w W' := by
  obtain ⟨v, h1, h2⟩ := h.out
  exact ⟨ht.below h.bel (Nat.le_refl _) hB, v, h1.ck ht.ck, h2.ck ht.ck⟩
theorem MFin.st (h : MFin key ctr nonce t w.heap.size B0 ob w W) (hb : w.heap.size ≤ bc) (hB : bc < B0) (h2 : ob ≠ bc) (hs : BSt bc W W') : MFin key ctr nonce t w.heap.size B0 ob w W' := by
  obtain ⟨v, h3, h4⟩ := h.out
  exact ⟨hs.upd.below h.bel hb h.bel.size, v, h3.upd hs.upd h2, h4.keep fun j hj hl => hs.upd.block j hl (by omega)⟩
theorem MInv.step (h : MInv key ctr nonce t w.heap.size B0 tb ob w vt k W) (hb : Below W.heap.size W W') : MInv key ctr nonce t w.heap.size B0 tb ob w vt k W' := by
  obtain ⟨v, h3, h4⟩ := h.out
  exact ⟨h.bel.trans (hb.mono h.bel.size), h.txt.step hb, Nat.le_trans h.sz hb.size, h.big, v, h3.step hb, h4.step hb⟩
end
set_option maxRecDepth 100000 in
set_option maxHeartbeats 1600000 in
theorem mix_any (key nonce : List UInt8) (ctr : UInt32) (hkey : key.length = 32) (hnon : nonce.length = 12) (vt : Value) (t : List UInt8) (w : World) (hs : RowIs w 1 (u32s startL)) (hq : RowIs w 0 qCells)
    (ht : Bs w vt t) (hl : t.length ≤ 4000) :
    Calls Tryd.prog 14 #[.agg (u8s key), .int .u32 (n32 ctr), .agg (u8s nonce), vt] w (MixRes w (mixB key ctr nonce t)) := by
  obtain ⟨A, c, rfl, -, -, -⟩ := id ht
  obtain ⟨nt, hnt⟩ : ∃ n, t.length = n := ⟨_, rfl⟩
  rw [hnt] at hl ht ⊢
  have h4 : ¬ (4000 : Int) < nt := by omega
  have HNT := Lib.hid hnt
  clear hnt
  obtain ⟨w0, hw0⟩ : ∃ w0, w0 = (((w.alloc (.cells (u8s key) 26)).alloc (.cells (u8s nonce) 27)).alloc (.cells #[.slice A nt c] 35)).alloc (.cells #[.slice none 0 0] 35) := ⟨_, rfl⟩
  refine (callsIn_wide (n := 4)).1 (callsIn_of_wp_marks Tryd.func14 rfl trivial ?_)
  simp only [Tryd.ntmps14, List.size_toArray, List.length_cons, List.length_nil, Nat.reduceAdd, Nat.reduceSub, Array.replicate_succ, Array.replicate_zero, List.push_toArray, List.append_toArray, List.nil_append, List.cons_append]
  refine wpIn_wide.2 ?_
  go_wp2_with fail
  refine (blocks_any key nonce ctr _).mono ?_
  rintro e w1 ⟨rfl, hw1⟩
  rw [← hw0] at hw1 ⊢
  have b0 : w0.heap.size = w.heap.size + 4 := by rw [hw0]; simp
  have b1 : w1.heap.size = w.heap.size + 7 := by rw [hw1]; simp [b0]
  unfold blocksF
  rw [b0]
  have hb0 : Below w.heap.size w w0 := by rw [hw0]; exact (by repeat (first | with_reducible exact Below.refl _ _ | with_reducible assumption | refine Below.drew ?_ | refine below_drewN ?_ | refine Below.alloc ?_ (by first | omega | (simp; done) | (simp; omega)) _ | refine below_setRow ?_ (by omega) _ | refine Below.setCell ?_ (by first | omega | (simp; done) | (simp; omega)) _))
  have hb01 : Below w0.heap.size w0 w1 := by rw [hw1]; exact (by repeat (first | with_reducible exact Below.refl _ _ | with_reducible assumption | refine Below.drew ?_ | refine below_drewN ?_ | refine Below.alloc ?_ (by first | omega | (simp; done) | (simp; omega)) _ | refine below_setRow ?_ (by omega) _ | refine Below.setCell ?_ (by first | omega | (simp; done) | (simp; omega)) _))
  have htb : RowIs w1 (w.heap.size + 1 + 1) #[.slice A nt c] := by
    refine RowIs.step ?_ hb01
    rw [hw0]; exact (RowIs.new' (by simp)).alloc _
  have hob : RowIs w1 (w.heap.size + 1 + 1 + 1) #[.slice none 0 0] := by
    refine RowIs.step ?_ hb01
    rw [hw0]; exact RowIs.new' (by simp)
  have hrows : BRows key nonce ctr (w.heap.size + 4) (w.heap.size + 4 + 1) (w.heap.size + 4 + 1 + 1) w1 := by
    refine ⟨?_, ?_, ?_, (hs.step hb0).step hb01, (hq.step hb0).step hb01⟩ <;> rw [hw1]
    · exact ((RowIs.new' (by rw [b0])).alloc _).alloc _
    · exact (RowIs.new' (by simp [b0])).alloc _
    · exact RowIs.new' (by simp [b0])
  have hB1 : Below w.heap.size w w1 := hb0.trans (hb01.mono hb0.size)
  have B1 := Lib.hid b1
  have hlt1 := hs.lt
  have hlt2 := hq.lt
  clear hw0 hw1 b0 b1 hb0 hb01
  go_wp2_with fail
  have b1 := B1.out
  refine (wpIn_wide (n := 4)).1 ?_
  refine wpIn_rangeBy (F := Fence.wide) rfl (by omega) (gf := 25) rfl trivial (enters_of Tryd.func25 (by kernel_rfl) rfl)
    (blocks1_by key nonce ctr hkey hnon (w.heap.size + 4) (w.heap.size + 4 + 1) (w.heap.size + 4 + 1 + 1) w1.heap.size (w.heap.size + 1 + 1 + 1) 100 3 w1 hrows (Nat.le_refl _) ?hob ?hbc)
    (fun A B h => h.oth.from _) (fun h k => h.trans k) (fun s W l o o' hl _ _ _ => BKp.putObj W o' hl) (fun k vs W h => by rw [show vs = _ from h]; rfl)
    (fun k _ W => MInv key ctr nonce t w.heap.size w1.heap.size (w.heap.size + 1 + 1) (w.heap.size + 1 + 1 + 1) w (.slice A nt c) k W)
    (fun cd k W => cd = .exit 0 ∧ t.length ≤ 64 * k ∧ MFin key ctr nonce t w.heap.size w1.heap.size (w.heap.size + 1 + 1 + 1) w W)
    (fun k => Turn.ownFrom fun s W W' h ht => h.turn (by omega) ht) (fun cd => Turn.ownFrom fun s W W' h ht => ⟨h.1, h.2.1, h.2.2.turn (by omega) ht⟩)
    (fun k s A B h hst => h.st (bc := w.heap.size + 4 + 1) (by omega) (by omega) (by omega) (by omega) hst) (fun cd k A B h hst => ⟨h.1, h.2.1, h.2.2.st (bc := w.heap.size + 4 + 1) (by omega) (by omega) (by omega) hst⟩)
    (fun _ s W h => by rcases h.big with h | h <;> (have := HNT.out; omega)) ?h0 ?hround (fun D k s W _ h => False.elim h) ?hstop
  case hob => rintro r (rfl | rfl | rfl | rfl | rfl) <;> omega
  case hbc => refine ⟨?_, ?_, ?_, ?_⟩ <;> omega
  case h0 => exact fun W hW => ⟨hB1.trans (hW.mono hB1.size), htb.step hW, hW.size, .inl rfl, _, hob.step hW, by simpa using Own8.nil _ _ _⟩
  case hround =>
    intro l k s vs W hk hi hsW harg
    obtain rfl : vs = _ := harg
    obtain ⟨blk, hblk⟩ : ∃ b, b = blockB key (cAt ctr k) nonce := ⟨_, rfl⟩
    have hbl : blk.length = 64 := by rw [hblk, blockB_length]
    rw [← hblk]
    have HBLK := Lib.hid hblk
    clear hblk
    have hwl := hi.sz
    gi_wp2_with fail
    have hal : Below W.heap.size W (W.alloc (.cells (u8s blk) 31)) := (by repeat (first | with_reducible exact Below.refl _ _ | with_reducible assumption | refine Below.drew ?_ | refine below_drewN ?_ | refine Below.alloc ?_ (by first | omega | (simp; done) | (simp; omega)) _ | refine below_setRow ?_ (by omega) _ | refine Below.setCell ?_ (by first | omega | (simp; done) | (simp; omega)) _))
    refine ⟨keepsFrom_below hal, ⟨hal.size, fun r hr _ => hal.block r (by omega)⟩, fun W2 ht2 => ?_⟩
    have rb : RowIs W2 W.heap.size (u8s blk) := (RowIs.new W _ _).ck ht2.ck
    replace hi := (hi.step hal).turn (by omega) ht2
    have hsz2 : w1.heap.size ≤ W2.heap.size := by have := ht2.ck.size; have := hal.size; omega
    clear ht2 hal hsW
    obtain ⟨v, ho, hown⟩ := hi.out
    obtain ⟨pre, hpre⟩ : ∃ p, p = (mixB key ctr nonce t).take (64 * k) := ⟨_, rfl⟩
    have h64 : 64 * k ≤ t.length := by rcases hi.big with h | h <;> omega
    have hpl : pre.length = 64 * k := by rw [hpre, List.length_take, mixB_length]; omega
    have HCAT : Hid (pre ++ xorB (t.drop (64 * k)) blk = (mixB key ctr nonce t).take (64 * (k + 1))) := Lib.hid (by rw [hpre, HBLK.out]; exact mix_step key ctr nonce t k h64)
    rw [← hpre] at hown
    obtain ⟨Av, cv, rfl⟩ := hown.slice
    obtain ⟨m, hm⟩ : ∃ m, 64 * k = m := ⟨_, rfl⟩
    rw [hpl, hm] at hown ho
    rw [hm] at HCAT h64
    have htx : Bs W2 (.slice A nt c) t := ht.step hi.bel
    have hmn : m ≤ nt := by have := HNT.out; omega
    have hdr := htx.drop m hmn
    have hfrom : ∀ w, (Instr.sliceAt 35 (.slice A nt c) (some (.int .i64 m)) none none).run Tryd.prog w = .ok (.slice (subA A c m) (nt - m) (c - m)) w := run_from Tryd.underlying35 (by kernel_rfl) A nt c m hmn
    have hbb : Bs W2 (.slice (some ⟨W.heap.size, 0, none⟩) 64 64) blk := Bs.row rb 64 64 (by rw [hbl]) (by omega) (by omega)
    have hS2 : TwoC ⟨w.heap.size + 1 + 1 + 1, 0, none⟩ ⟨w.heap.size + 1 + 1, 0, none⟩ (.slice Av m cv) (.slice A nt c) W2 := ⟨ho.cell0, hi.txt.cell0⟩
    have HPRE := Lib.hid hpre; have HPL := Lib.hid hpl; have HM := Lib.hid hm
    have hfz := ho.fz 0
    clear hpre hpl hm rb
    gi_wp2_with fail
    refine wpIn_region_lexT (.inr ⟨l, rfl⟩) [] [0, 1, 2] (TwoC ⟨w.heap.size + 1 + 1 + 1, 0, none⟩ ⟨w.heap.size + 1 + 1, 0, none⟩ (.slice Av m cv) (.slice A nt c)) (by kernel_rfl) (by decide +kernel) (by decide +kernel) hS2 (fun hS => ?_)
    (go_wp2_with (first | (refine wpLexT_pure rfl (fun _ _ => ?_); go_simp; refine ⟨_, fun w9 hw9 => (by have s1 := hw9.1; have s2 := hw9.2; go_simp; rfl), ?_⟩) | (refine wpLexT_pure0 rfl (fun _ _ => ?_); go_simp; try go_bits) | (refine wpLexT_read rfl (fun _ _ => ?_); go_simp; try go_bits) | (refine wpLexT_loud rfl (fun KL hKL => ?_))))
    have hd : Below W2.heap.size W2 W2.drew := (by repeat (first | with_reducible exact Below.refl _ _ | with_reducible assumption | refine Below.drew ?_ | refine below_drewN ?_ | refine Below.alloc ?_ (by first | omega | (simp; done) | (simp; omega)) _ | refine below_setRow ?_ (by omega) _ | refine Below.setCell ?_ (by first | omega | (simp; done) | (simp; omega)) _))
    refine (xor_bs (hdr.step hd) (hbb.step hd)).mono ?_
    rintro e w3 ⟨v3, rfl, hv3, hb3⟩
    have hq3 : Below W2.heap.size W2 w3 := hd.trans hb3
    have hsz3 := hq3.size
    go_wp2_with fail
    refine hKL _ _ ⟨(hq3.cell (p := ⟨w.heap.size + 1 + 1 + 1, 0, none⟩) (show w.heap.size + 1 + 1 + 1 < W2.heap.size by omega)).trans hS2.1, (hq3.cell (p := ⟨w.heap.size + 1 + 1, 0, none⟩) (show w.heap.size + 1 + 1 < W2.heap.size by omega)).trans hS2.2⟩ (fun _ => ?_)
    (go_wp2_with (first | (refine wpLexT_pure rfl (fun _ _ => ?_); go_simp; refine ⟨_, fun w9 hw9 => (by have s1 := hw9.1; have s2 := hw9.2; go_simp; rfl), ?_⟩) | (refine wpLexT_pure0 rfl (fun _ _ => ?_); go_simp; try go_bits) | (refine wpLexT_read rfl (fun _ _ => ?_); go_simp; try go_bits)))
    refine wpLexT_loud rfl (fun KL hKL => ?_)
    refine wpList_wanted (by rfl) (fun K1 hK1 => ?_)
    obtain ⟨L, hL⟩ : ∃ L, L = (mixB key ctr nonce t).take (64 * (k + 1)) := ⟨_, rfl⟩
    rw [← hL] at HCAT
    obtain ⟨N, hN⟩ : ∃ N, L.length = N := ⟨_, rfl⟩
    have HNM := Lib.hid (show N = min (64 * (k + 1)) nt by rw [← hN, hL, List.length_take, mixB_length, HNT.out])
    have HNL : N ≤ 4000 := by have := HNM.out; omega
    refine wp_appendBsK Tryd.underlying35 Tryd.info8 (.tmp 20) (.tmp 26) rfl w1.heap.size rfl (hown.step hq3) rfl hv3 HCAT.out hN (by omega) (by omega) ?_
    intro A4 c4 w4 own4 bel4 ko4
    refine hK1 _ _ ?_
    go_wp2_with fail
    have hs4 := bel4.size
    have hob4 : RowIs w4 (w.heap.size + 1 + 1 + 1) #[.slice Av m cv] := (ho.step hq3).below bel4 (by omega)
    have htb4 : RowIs w4 (w.heap.size + 1 + 1) #[.slice A nt c] := (hi.txt.step hq3).below bel4 (by omega)
    have hbel4 : Below w.heap.size w w4 := hi.bel.trans ((hq3.mono hi.bel.size).trans (bel4.mono (by omega)))
    refine hKL _ _ ⟨hob4.cell0, htb4.cell0⟩ (fun _ => ?_)
    have hc4 := hob4.cell0
    have hf4 := hob4.fz 0
    refine wpLexT_last (fun KL hKL => ?_)
    go_wp2_with fail
    obtain ⟨w5, hw5⟩ : ∃ w5, w5 = w4.setCell ⟨w.heap.size + 1 + 1 + 1, 0, none⟩ (.slice A4 N c4) := ⟨_, rfl⟩
    have R5 : RowIs w5 (w.heap.size + 1 + 1 + 1) #[.slice A4 N c4] := by rw [hw5]; simpa using hob4.put 0 (.slice A4 N c4)
    have T5 : RowIs w5 (w.heap.size + 1 + 1) #[.slice A nt c] := by rw [hw5]; exact htb4.put_ne (by simp) _
    have own5 : Own8 5 w5 w1.heap.size (.slice A4 N c4) L := by rw [hw5]; exact own4.keep fun j hj _ => Below.heap_setCell _ _ _ _ (by simp; omega)
    have bel5 : Below w.heap.size w w5 := by rw [hw5]; exact hbel4.setCell (by simp; omega) _
    have ko5 : KeepsFrom w1.heap.size W2 w5 := by rw [hw5]; exact ((keepsOthers_below hq3).trans (ko4.trans (KeepsOthers.setCell _ _ _))).from _
    have s5 : w1.heap.size ≤ w5.heap.size := by rw [hw5]; simp [World.setCell]; omega
    have kp5 : BKp w1.heap.size (w.heap.size + 1 + 1 + 1) W2 w5 := by
      refine ⟨by rw [hw5]; simp [World.setCell]; omega, fun r hr hne => ?_⟩
      rw [hw5, Below.heap_setCell _ _ _ _ (by simp; omega), bel4.block r hr, hq3.block r (by omega)]
    rw [← hw5]
    have HL := Lib.hid hL
    have HN := Lib.hid hN
    clear hL hN hw5 own4 bel4 ko4 hob4 htb4 hbel4 hc4 hf4 hfz hq3 hS2 hS hv3 hb3 hdr hbb htx hfrom hown ho hi hd
    have c5 := R5.cell0
    have t5 := T5.cell0
    by_cases hfin : t.length ≤ 64 * (k + 1)
    · have hNn : N = nt := by have := HNT.out; have := HNM.out; omega
      rw [hNn] at c5 R5 own5
      gi_wp2_with fail
      refine ⟨ko5, rfl, hfin, bel5, _, R5, ?_⟩
      rw [HL.out, mix_all _ _ _ _ _ hfin] at own5
      exact own5
    · have hNn : ¬ N = nt := by have := HNT.out; have := HNM.out; omega
      gi_wp2_with fail
      refine ⟨ko5, kp5, bel5, T5, s5, .inr (by omega), _, R5, ?_⟩
      rw [← HL.out]; exact own5
  case hstop =>
    rintro D cd k W hD ⟨rfl, hlk, hi⟩ hDd
    obtain ⟨v, ho, hown⟩ := hi.out
    have hc0 := ho.cell0
    refine wpIn_wide.2 ?_
    go_wp2_with fail
    refine ⟨by simp, .inl ⟨_, _, rfl, run_takeDeferred hDd, ?_⟩⟩
    have htu : Turn w1.heap.size W (W.putObj D (.deferred none)) := ⟨some D, grownBy_putObj' _ _ _, fun r e => by cases e; exact ⟨hD, _, hDd, rfl⟩⟩
    have hle : (mixB key ctr nonce t).length ≤ 140737488351232 := by rw [mixB_length, HNT.out]; omega
    exact ⟨_, results_tmp2 rfl _ _ _, v, rfl, (hown.bs hle).ck htu.ck, htu.below hi.bel (Nat.le_refl _) (by omega)⟩
end Go.Proofs.YtbiiffendpkidaaDoor
