/- mac.Expand (begun: holes). -/
import Derived.Test.YtopmdbmnlflpgaaDoorExpM
namespace Go.Proofs.YtopmdbmnlflpgaaDoor
open Go.RowKit Go.Shelf
attribute [local go_sem ↓] xloadK
attribute [local go_sem] loadK0
attribute [local go_sem] Oper.semAt_some
def ExpdRes (g : Nat) (M : Int) (l : List UInt8) (w : World) (e : Ending) (w' : World) : Prop := ∃ v, e = .returned (.tuple #[v, .int .i64 0]) ∧ Bs w' v l ∧ MetB w' g M ∧ Upd g w w'
set_option maxRecDepth 100000 in
set_option maxHeartbeats 1600000 in
theorem expand_goes (g : Nat) (key : List UInt8) (hkey : key.length = 32) (vi : Value) (info : List UInt8) (hinfo : info.length ≤ 200) (n : Nat) (h1 : 1 ≤ n) (h8 : n ≤ 8160) (N : Int) (hN0 : 0 ≤ N) (hNM : N ≤ 800000) (w : World) (hm : MetB w g N) (he : ShaEnv w) (hi : Bs w vi info) :
    Calls Tryd.prog 30 #[.pointer (some ⟨g, 0, none⟩), .agg (u8s key), vi, .int .i64 n] w (ExpdRes g (N + 1020) (expB key info n) w) := by
  obtain ⟨A, c, rfl, -, -, -⟩ := id hi
  obtain ⟨ni, hni⟩ : ∃ ni, info.length = ni := ⟨_, rfl⟩
  rw [hni] at hi ⊢
  have i1 : ¬ (n : Int) < 0 := by omega
  have i2 : ¬ (8160 : Int) < n := by omega
  have i3 : ((n : Int) == 0) = false := by simp; omega
  obtain ⟨w0, hw0⟩ : ∃ w0, w0 = ((w.alloc (.cells (u8s key) 33)).alloc (.cells #[.int .i64 n] 3)).alloc (.cells #[.slice none 0 0] 27) := ⟨_, rfl⟩
  have hgl := hm.lt
  refine (callsIn_wide (n := 4)).1 (callsIn_of_wp_marks Tryd.func30 rfl trivial ?_)
  simp only [Tryd.ntmps30, List.size_toArray, List.length_cons, List.length_nil, Nat.reduceAdd, Nat.reduceSub, Array.replicate_succ, Array.replicate_zero, List.push_toArray, List.append_toArray, List.nil_append, List.cons_append]
  refine wpIn_wide.2 ?_
  go_wp2_with fail
  refine (keys_any g key A ni c _).mono ?_
  rintro e w1 ⟨rfl, hw1⟩
  rw [← hw0] at hw1 ⊢
  have b0 : w0.heap.size = w.heap.size + 3 := by rw [hw0]; simp
  have b1 : w1.heap.size = w.heap.size + 6 := by rw [hw1]; simp [b0]
  unfold keysF
  rw [b0]
  have hb0 : Below w.heap.size w w0 := by rw [hw0]; exact (by repeat (first | with_reducible exact Below.refl _ _ | with_reducible assumption | refine Below.drew ?_ | refine below_drewN ?_ | refine Below.alloc ?_ (by first | omega | (simp; done) | (simp; omega)) _ | refine below_setRow ?_ (by omega) _ | refine Below.setCell ?_ (by first | omega | (simp; done) | (simp; omega)) _))
  have hb01 : Below w0.heap.size w0 w1 := by rw [hw1]; exact (by repeat (first | with_reducible exact Below.refl _ _ | with_reducible assumption | refine Below.drew ?_ | refine below_drewN ?_ | refine Below.alloc ?_ (by first | omega | (simp; done) | (simp; omega)) _ | refine below_setRow ?_ (by omega) _ | refine Below.setCell ?_ (by first | omega | (simp; done) | (simp; omega)) _))
  have hnum : RowIs w1 (w.heap.size + 1) #[.int .i64 n] := by
    refine RowIs.step ?_ hb01
    rw [hw0]; exact (RowIs.new' (by simp)).alloc _
  have hob : RowIs w1 (w.heap.size + 1 + 1) #[.slice none 0 0] := by
    refine RowIs.step ?_ hb01
    rw [hw0]; exact RowIs.new' (by simp)
  have hB1 : Below w.heap.size w w1 := hb0.trans (hb01.mono hb0.size)
  have hrows : KRows key info (.slice A ni c) g (w.heap.size + 3) (w.heap.size + 3 + 1) (w.heap.size + 3 + 1 + 1) w1.heap.size (w.heap.size + 1 + 1) N w1 := by
    refine ⟨?_, ?_, ?_, hm.step hB1, he.step hB1, ?_⟩
    · rw [hw1]; exact ((RowIs.new' (by rw [b0])).alloc _).alloc _
    · rw [hw1]; exact (RowIs.new' (by simp [b0])).alloc _
    · rw [hw1]; exact RowIs.new' (by simp [b0])
    · exact BsK.step (BsK.of hi (by omega) (by omega)) hB1
  have HI := Lib.hid hi
  have B1 := Lib.hid b1
  have hr1 := he.rounds.lt
  have hr2 := he.start.lt
  have hshr := hrows.env
  have HUP : Upd g w w1 := Upd.of hB1
  clear hw0 hw1 b0 b1 hb0 hb01 hi
  go_wp2_with fail
  have b1 := B1.out
  refine (wpIn_wide (n := 4)).1 ?_
  refine wpIn_rangeBy (F := Fence.wide) rfl (by omega) (gf := 99) rfl trivial (enters_of Tryd.func99 (by kernel_rfl) rfl)
    (keys1_by key info (.slice A ni c) hkey hinfo g (w.heap.size + 3) (w.heap.size + 3 + 1) (w.heap.size + 3 + 1 + 1) w1.heap.size (w.heap.size + 1 + 1) 3 N (N + 1020) w1 hrows hN0 (by omega) (by omega) (Nat.le_refl _) ?hob ?hg)
    (fun A B h => h.oth.from _) (fun h k => h.trans k) (fun s W l o o' hl ho hc _ => EKp.putObj W o o' hl ho hc) (fun k vs W h => by rw [show vs = _ from h]; rfl)
    (fun k s W => EInv key info n g w1.heap.size (w.heap.size + 1) (w.heap.size + 1 + 1) (N + 1020) w k s W)
    (fun cd k W => cd = .exit 0 ∧ EFin key info n g w1.heap.size (w.heap.size + 1) (w.heap.size + 1 + 1) (N + 1020) w k W)
    (fun k => Turn.ownFrom fun s W W' h ht => h.turn (by omega) ht) (fun cd => Turn.ownFrom fun s W W' h ht => ⟨h.1, h.2.turn (by omega) ht⟩)
    (fun k s A B h hst => h.st (by omega) (by omega) (by omega) hst) (fun cd k A B h hst => ⟨h.1, h.2.st (by omega) (by omega) (by omega) hst⟩)
    (fun _ s W h => by rcases h.big with h | h <;> omega) ?h0 ?hround (fun D k s W _ h => False.elim h) ?hstop
  case hob => rintro r (rfl | rfl | rfl | rfl | rfl | rfl) <;> omega
  case hg => exact ⟨by omega, by omega, by omega⟩
  case h0 => exact fun W hW => ⟨HUP.then hW, (hrows.met.step hW).mono (by omega), hnum.step hW, hW.size, .inl rfl, _, hob.step hW, by simpa [outK] using Own8.nil _ _ _, fun b hb => by simp [Value.ownBlock] at hb⟩
  case hround =>
    intro l k s vs W hk hi hsW harg
    obtain rfl : vs = _ := harg
    obtain ⟨T, hT⟩ : ∃ T, T = tK key info (k + 1) := ⟨_, rfl⟩
    have hTl : T.length = 32 := by rw [hT, tK_length]
    rw [← hT]
    have HT := Lib.hid hT
    clear hT
    have hwl := hi.sz
    gi_wp2_with fail
    have hal : Below W.heap.size W (W.alloc (.cells (u8s T) 33)) := (by repeat (first | with_reducible exact Below.refl _ _ | with_reducible assumption | refine Below.drew ?_ | refine below_drewN ?_ | refine Below.alloc ?_ (by first | omega | (simp; done) | (simp; omega)) _ | refine below_setRow ?_ (by omega) _ | refine Below.setCell ?_ (by first | omega | (simp; done) | (simp; omega)) _))
    refine ⟨keepsFrom_below hal, ⟨hal.size, fun r hr _ => hal.block r (by omega), fun r cs t fr _ hc => by rw [hal.block r (Array.getElem?_eq_some_iff.1 hc).1]; exact hc⟩, fun W2 ht2 => ?_⟩
    have rT : RowIs W2 W.heap.size (u8s T) := (RowIs.new W _ _).ck ht2.ck
    replace hi := (hi.step hal).turn (by omega) ht2
    have hsz2 : W.heap.size + 1 ≤ W2.heap.size := by
      have q := ht2.ck.size
      rw [show (W.alloc (.cells (u8s T) 33)).heap.size = W.heap.size + 1 by simp] at q
      exact q
    clear ht2 hal
    obtain ⟨v, ho, hown, hvs⟩ := hi.out
    have hlen := outK_length key info k
    obtain ⟨Av, cv, rfl⟩ := hown.slice
    rw [hlen] at hown ho hvs
    have hS2 : TwoK ⟨w.heap.size + 1 + 1, 0, none⟩ ⟨w.heap.size + 1 + 1, 0, none⟩ (.slice Av (32 * k) cv) (.slice Av (32 * k) cv) W2 := ⟨ho.cell0, ho.cell0⟩
    have hbT : Bs W2 (.slice (some ⟨W.heap.size, 0, none⟩) 32 32) T := Bs.row rT 32 32 hTl.symm (Nat.le_refl _) (by omega)
    gi_wp2_with fail
    refine wpIn_region_lexT (.inr ⟨l, rfl⟩) [] [0] (TwoK ⟨w.heap.size + 1 + 1, 0, none⟩ ⟨w.heap.size + 1 + 1, 0, none⟩ (.slice Av (32 * k) cv) (.slice Av (32 * k) cv)) (by kernel_rfl) (by decide +kernel) (by decide +kernel) hS2 (fun hS => ?_)
    (go_wp2_with (first | (refine wpLexT_pure rfl (fun _ _ => ?_); go_simp; refine ⟨_, fun w9 hw9 => (by have s1 := hw9.1; go_simp; rfl), ?_⟩) | (refine wpLexT_pure0 rfl (fun _ _ => ?_); go_simp; try go_bits) | (refine wpLexT_read rfl (fun _ _ => ?_); go_simp; try go_bits)))
    refine wpLexT_loud rfl (fun KL hKL => ?_)
    refine wpList_wanted (by rfl) (fun K1 hK1 => ?_)
    have hLL : outK key info k ++ T = outK key info (k + 1) := by rw [outK, ← HT.out]
    have hNN : (outK key info (k + 1)).length = 32 * (k + 1) := outK_length _ _ _
    have hd : Below W2.heap.size W2 W2.drew := (by repeat (first | with_reducible exact Below.refl _ _ | with_reducible assumption | refine Below.drew ?_ | refine below_drewN ?_ | refine Below.alloc ?_ (by first | omega | (simp; done) | (simp; omega)) _ | refine below_setRow ?_ (by omega) _ | refine Below.setCell ?_ (by first | omega | (simp; done) | (simp; omega)) _))
    have hsd : W2.drew.heap.size = W2.heap.size := rfl
    refine wp_appendBsG Tryd.underlying27 Tryd.info8 (.tmp 26) (.tmp 27) rfl w1.heap.size rfl (hown.step hd) rfl (hbT.step hd) hLL hNN (by omega) (by omega) ?_
    intro A4 c4 w4 own4 bel4 ko4 gr4
    refine hK1 _ _ ?_
    go_wp2_with fail
    have hob4 : RowIs w4 (w.heap.size + 1 + 1) #[.slice Av (32 * k) cv] := (ho.step hd).below bel4 (by omega)
    refine hKL _ _ ⟨hob4.cell0, hob4.cell0⟩ (fun _ => ?_)
    have hc4 := hob4.cell0
    have hf4 := hob4.fz 0
    refine wpLexT_last (fun KL hKL => ?_)
    go_wp2_with fail
    obtain ⟨w5, hw5⟩ : ∃ w5, w5 = w4.setCell ⟨w.heap.size + 1 + 1, 0, none⟩ (.slice A4 (32 * (k + 1)) c4) := ⟨_, rfl⟩
    have R5 : RowIs w5 (w.heap.size + 1 + 1) #[.slice A4 (32 * (k + 1)) c4] := by rw [hw5]; simpa using hob4.put 0 (.slice A4 (32 * (k + 1)) c4)
    have own5 : Own8 5 w5 w1.heap.size (.slice A4 (32 * (k + 1)) c4) (outK key info (k + 1)) := by rw [hw5]; exact own4.keep fun j hj _ => Below.heap_setCell _ _ _ _ (by simp; omega)
    have N4 : RowIs w4 (w.heap.size + 1) #[.int .i64 n] := (hi.num.step hd).below bel4 (by omega)
    have N5 : RowIs w5 (w.heap.size + 1) #[.int .i64 n] := by rw [hw5]; exact N4.put_ne (by simp) _
    have hbW : Below w.heap.size W2 w5 := by rw [hw5]; exact ((hd.mono (by omega)).trans (bel4.mono (by omega))).setCell (by simp; omega) _
    have ko5 : KeepsFrom w1.heap.size W2 w5 := by
      rw [hw5]
      have k0 : KeepsOthers W2 W2.drew := ⟨hd.size, fun q o hq _ => by rw [hd.block q (Array.getElem?_eq_some_iff.1 hq).1]; exact hq⟩
      exact (k0.trans (ko4.trans (KeepsOthers.setCell _ _ _))).from _
    have ek5 : EKp w1.heap.size (w.heap.size + 1 + 1) s W2 w5 := by
      refine ⟨hbW.size, fun r hr hne => ?_, fun r cs t fr hr hc => ?_⟩
      · rw [hw5, Below.heap_setCell _ _ _ _ (by simp; omega), bel4.block r hr, hd.block r (by omega)]
      · have hlt := (Array.getElem?_eq_some_iff.1 hc).1
        rw [hw5, Below.heap_setCell _ _ _ _ (by simp; omega), gr4.block r hlt (fun e => by have := hvs r e.symm; omega), hd.block r hlt]
        exact hc
    have up5 : Upd g w w5 := hi.upd.thenB hbW
    have mt5 : MetB w5 g (N + 1020) := by
      obtain ⟨n0, q0, q1, q2⟩ := hi.met.step hd
      rw [hw5]
      exact ⟨n0, q0, q1, RowIs.put_ne (RowIs.below q2 bel4 (by omega)) (by simp; omega) _⟩
    have s5 : w1.heap.size ≤ w5.heap.size := by have := hbW.size; omega
    rw [← hw5]
    have c5 := R5.cell0
    have n5 := N5.cell0
    clear hw5 own4 bel4 ko4 gr4 hob4 hc4 hf4 hS2 hS hbT hown ho hi hd rT N4 hbW b1
    by_cases hfin : n ≤ 32 * (k + 1)
    · have hge : (n : Int) ≤ ((32 * (k + 1) : Nat) : Int) := by omega
      gi_wp2_with fail
      exact ⟨ko5, rfl, up5, mt5, N5, hfin, by omega, _, R5, own5⟩
    · have hge : ¬ (n : Int) ≤ ((32 * (k + 1) : Nat) : Int) := by omega
      gi_wp2_with fail
      exact ⟨ko5, ek5, up5, mt5, N5, s5, .inr (by omega), _, R5, own5, fun b hb => own5.lt hb⟩
  case hstop =>
    rintro D cd k W hD ⟨rfl, hi⟩ hDd
    obtain ⟨v, ho, hown⟩ := hi.out
    have hlen := outK_length key info k
    obtain ⟨Av, cv, rfl⟩ := hown.slice
    have hbs := hown.bs (by rw [hlen]; have := hi.kb; omega)
    rw [hlen] at hbs hown ho
    have htk := hbs.take n hi.big
    rw [expB_of key info n k hi.big] at htk
    have hle := hown.len.2
    rw [hlen] at hle
    have hcl : ¬ (cv : Int) < n := by have := hi.big; omega
    have hc0 := ho.cell0
    have hn0 := hi.num.cell0
    have htu : Turn w1.heap.size W (W.putObj D (.deferred none)) := ⟨some D, grownBy_putObj' _ _ _, fun r e => by cases e; exact ⟨hD, _, hDd, rfl⟩⟩
    have hfin := hi.turn (by omega) htu
    have HTK := Lib.hid htk
    clear hbs hown ho htk hi
    refine wpIn_wide.2 ?_
    go_wp2_with fail
    refine ⟨by simp, .inl ⟨_, _, rfl, run_takeDeferred hDd, ?_⟩⟩
    exact ⟨_, results_tmp2 rfl _ _ _, _, rfl, (HTK.out).ck htu.ck, hfin.met, hfin.upd⟩
end Go.Proofs.YtopmdbmnlflpgaaDoor
