/- mac.Expand: what a round keeps, and the whole of it. -/
import Derived.Test.YtopmdbmnlflpgaaDoorExp
namespace Go.Proofs.YtopmdbmnlflpgaaDoor
section
open Go.RowKit Go.Shelf
/-- bytes appended to an own slice: what is no cells stays, and what is not its row -/
theorem wp_appendBsG {P : Program} {w : World} {t e : TypeId} {o : Oper} {a : Act} {K : Act → World → Prop} {Q : Exit → Act → World → Prop} (ht : P.underlying t = some (.slice e)) (hi : (P.info? e).map (fun i => (i.zero, i.size, i.bytes)) = some (some (.int .u8 0), 1, 1))
    (s x : Operand) (ho : o.op = .call { callee := .builtin .append, args := #[s, x], argTypes := #[t, t] })
    (base : Nat) {v vx : Value} {l bs L : List UInt8} {N : Nat} (hs : a.eval s = v) (hown : Own8 e w base v l) (hx : a.eval x = vx) (hb : Bs w vx bs) (hL : l ++ bs = L) (hN : L.length = N)
    (hlen : N ≤ 140737488355328) (hbase : base ≤ w.heap.size)
    (h : ∀ A' c' w', Own8 e w' base (.slice A' N c') L → Below base w w' → KeepsOthers w w' → w.grownBy w' v.ownBlock → K (a.put o.dst (.slice A' N c')) w') : o.wp P a w K Q := by
  obtain ⟨A, c, rfl, h1, h2, h3⟩ := hb
  subst hL; subst hN
  obtain ⟨v', w', hrun, g2, g3⟩ := run_append8s (w := w) ht hi o.type base _ v l hown A c bs h3 (by rwa [List.length_append] at hlen) hbase
  obtain ⟨A', c', rfl⟩ := g2.slice
  unfold Oper.wp execOp
  simp only [ho, resolve, invoke, builtin, Sem.run_bind, Sem.run_pure, Result.andThen_ok, List.map_toArray, List.map_cons, List.map_nil, hs, hx, hrun]
  refine h A' c' w' g2 (below_append (Below.refl _ _) hown g3 (Nat.le_refl _) hbase) (KeepsOthers.of_grownBy g3 fun j ob hj hob => ?_) g3
  rcases hown.2 with ⟨hn, _⟩ | ⟨g, cap, cur, hv, _, hh, _⟩
  · rw [hn] at hj; simp [Value.ownBlock] at hj
  · rw [hv] at hj
    simp [Value.ownBlock] at hj
    subst hj
    rw [hh] at hob
    cases hob; rfl
structure EInv (key info : List UInt8) (n g B0 nb ob : Nat) (M : Int) (w : World) (k s : Nat) (W : World) : Prop where
  upd : Upd g w W
  met : MetB W g M
  num : RowIs W nb #[.int .i64 n]
  sz : B0 ≤ s
  big : k = 0 ∨ 32 * k < n
  out : ∃ v, RowIs W ob #[v] ∧ Own8 5 W B0 v (outK key info k) ∧ ∀ b, v.ownBlock = some b → b < s
structure EFin (key info : List UInt8) (n g B0 nb ob : Nat) (M : Int) (w : World) (k : Nat) (W : World) : Prop where
  upd : Upd g w W
  met : MetB W g M
  num : RowIs W nb #[.int .i64 n]
  big : n ≤ 32 * k
  kb : k ≤ 255
  out : ∃ v, RowIs W ob #[v] ∧ Own8 5 W B0 v (outK key info k)
theorem MetB.ck {W W' : World} {g : Nat} {M : Int} (h : MetB W g M) (hk : Ck W W') : MetB W' g M := by
  obtain ⟨n, h0, h1, h2⟩ := h
  exact ⟨n, h0, h1, RowIs.ck h2 hk⟩
theorem Upd.turn {g B : Nat} {w W W' : World} (h : Upd g w W) (ht : Turn B W W') (hB : w.heap.size ≤ B) : Upd g w W' := by
  obtain ⟨row, hg, hr⟩ := ht
  refine ⟨hg.os.trans h.os, hg.tape.trans h.tape, hg.output.trans h.output, Nat.le_trans h.size hg.size, fun k hk hne => ?_⟩
  have hs := h.size
  rw [hg.block k (by omega) (fun e => by have := (hr k e.symm).1; omega)]
  exact h.block k hk hne
section
variable {key info : List UInt8} {n g B0 nb ob k s : Nat} {M : Int} {w W W' : World}
theorem EInv.turn (h : EInv key info n g B0 nb ob M w k s W) (hB : w.heap.size ≤ B0) (ht : Turn B0 W W') : EInv key info n g B0 nb ob M w k s W' := by
  obtain ⟨v, h1, h2, h3⟩ := h.out
  exact ⟨h.upd.turn ht hB, h.met.ck ht.ck, h.num.ck ht.ck, h.sz, h.big, v, h1.ck ht.ck, h2.ck ht.ck, h3⟩
theorem EInv.st (h : EInv key info n g B0 nb ob M w k s W) (h1 : nb ≠ g) (h2 : ob ≠ g) (hB : g < B0) (hs : MSt g M W W') : EInv key info n g B0 nb ob M w k s W' := by
  obtain ⟨v, h3, h4, h5⟩ := h.out
  exact ⟨h.upd.trans hs.upd, hs.met, h.num.upd hs.upd h1, h.sz, h.big, v, h3.upd hs.upd h2, h4.keep fun j hj hl => hs.upd.block j hl (by omega), h5⟩
theorem EFin.turn (h : EFin key info n g B0 nb ob M w k W) (hB : w.heap.size ≤ B0) (ht : Turn B0 W W') : EFin key info n g B0 nb ob M w k W' := by
  obtain ⟨v, h1, h2⟩ := h.out
  exact ⟨h.upd.turn ht hB, h.met.ck ht.ck, h.num.ck ht.ck, h.big, h.kb, v, h1.ck ht.ck, h2.ck ht.ck⟩
theorem EFin.st (h : EFin key info n g B0 nb ob M w k W) (h1 : nb ≠ g) (h2 : ob ≠ g) (hB : g < B0) (hs : MSt g M W W') : EFin key info n g B0 nb ob M w k W' := by
  obtain ⟨v, h3, h4⟩ := h.out
  exact ⟨h.upd.trans hs.upd, hs.met, h.num.upd hs.upd h1, h.big, h.kb, v, h3.upd hs.upd h2, h4.keep fun j hj hl => hs.upd.block j hl (by omega)⟩
theorem EInv.step (h : EInv key info n g B0 nb ob M w k s W) (hb : Below W.heap.size W W') : EInv key info n g B0 nb ob M w k s W' := by
  obtain ⟨v, h3, h4, h5⟩ := h.out
  exact ⟨h.upd.then hb, h.met.step hb, h.num.step hb, h.sz, h.big, v, h3.step hb, h4.step hb, h5⟩
end
end
section
open Go.RowKit Go.Shelf
attribute [local go_sem ↓] xloadK
attribute [local go_sem] loadK0
attribute [local go_sem] Oper.semAt_some
def ExpdRes (g : Nat) (M : Int) (l : List UInt8) (w : World) (e : Ending) (w' : World) : Prop := ∃ v, e = .returned (.tuple #[v, .int .i64 0]) ∧ Bs w' v l ∧ MetB w' g M ∧ Upd g w w'
set_option maxRecDepth 100000 in
set_option maxHeartbeats 1600000 in
theorem expand_goes (g : Nat) (key : List UInt8) (hkey : key.length = 32) (vi : Value) (info : List UInt8) (hinfo : info.length ≤ 200) (n : Nat) (h1 : 1 ≤ n) (h8 : n ≤ 8160) (N : Int) (hN0 : 0 ≤ N) (hNM : N ≤ 800000) (w : World) (hm : MetB w g N) (he : ShaEnv w) (hi : Bs w vi info) :
    Calls Tryd.prog 30 #[.pointer (some ⟨g, 0, none⟩), .agg (u8s key), vi, .int .i64 n] w (ExpdRes g (N + 1020) (expB key info n) w) := by
  obtain ⟨A, c, rfl, -, -, -⟩ := id hi
  obtain ⟨ni, hni⟩ : ∃ ni, info.length = ni := ⟨_, rfl⟩
  rw [hni] at hi ⊢
  have i1 : ¬ (n : Int) < 0 := by omega
  have i2 : ¬ (8160 : Int) < n := by omega
  have i3 : ((n : Int) == 0) = false := by simp; omega
  obtain ⟨w0, hw0⟩ : ∃ w0, w0 = ((w.alloc (.cells (u8s key) 33)).alloc (.cells #[.int .i64 n] 3)).alloc (.cells #[.slice none 0 0] 27) := ⟨_, rfl⟩
  have hgl := hm.lt
  refine (callsIn_wide (n := 4)).1 (callsIn_of_wp_marks Tryd.func30 rfl trivial ?_)
  simp only [Tryd.ntmps30, List.size_toArray, List.length_cons, List.length_nil, Nat.reduceAdd, Nat.reduceSub, Array.replicate_succ, Array.replicate_zero, List.push_toArray, List.append_toArray, List.nil_append, List.cons_append]
  refine wpIn_wide.2 ?_
  go_wp2_with fail
  refine (keys_any g key A ni c _).mono ?_
  rintro e w1 ⟨rfl, hw1⟩
  rw [← hw0] at hw1 ⊢
  have b0 : w0.heap.size = w.heap.size + 3 := by rw [hw0]; simp
  have b1 : w1.heap.size = w.heap.size + 6 := by rw [hw1]; simp [b0]
  unfold keysF
  rw [b0]
  have hb0 : Below w.heap.size w w0 := by rw [hw0]; exact (by repeat (first | with_reducible exact Below.refl _ _ | with_reducible assumption | refine Below.drew ?_ | refine below_drewN ?_ | refine Below.alloc ?_ (by first | omega | (simp; done) | (simp; omega)) _ | refine below_setRow ?_ (by omega) _ | refine Below.setCell ?_ (by first | omega | (simp; done) | (simp; omega)) _))
  have hb01 : Below w0.heap.size w0 w1 := by rw [hw1]; exact (by repeat (first | with_reducible exact Below.refl _ _ | with_reducible assumption | refine Below.drew ?_ | refine below_drewN ?_ | refine Below.alloc ?_ (by first | omega | (simp; done) | (simp; omega)) _ | refine below_setRow ?_ (by omega) _ | refine Below.setCell ?_ (by first | omega | (simp; done) | (simp; omega)) _))
  have hnum : RowIs w1 (w.heap.size + 1) #[.int .i64 n] := by
    refine RowIs.step ?_ hb01
    rw [hw0]; exact (RowIs.new' (by simp)).alloc _
  have hob : RowIs w1 (w.heap.size + 1 + 1) #[.slice none 0 0] := by
    refine RowIs.step ?_ hb01
    rw [hw0]; exact RowIs.new' (by simp)
  have hB1 : Below w.heap.size w w1 := hb0.trans (hb01.mono hb0.size)
  have hrows : KRows key info (.slice A ni c) g (w.heap.size + 3) (w.heap.size + 3 + 1) (w.heap.size + 3 + 1 + 1) w1.heap.size (w.heap.size + 1 + 1) N w1 := by
    refine ⟨?_, ?_, ?_, hm.step hB1, he.step hB1, ?_⟩
    · rw [hw1]; exact ((RowIs.new' (by rw [b0])).alloc _).alloc _
    · rw [hw1]; exact (RowIs.new' (by simp [b0])).alloc _
    · rw [hw1]; exact RowIs.new' (by simp [b0])
    · exact BsK.step (BsK.of hi (by omega) (by omega)) hB1
  have HI := Lib.hid hi
  have B1 := Lib.hid b1
  have hr1 := he.rounds.lt
  have hr2 := he.start.lt
  have hshr := hrows.env
  have HUP : Upd g w w1 := Upd.of hB1
  clear hw0 hw1 b0 b1 hb0 hb01 hi
  go_wp2_with fail
  have b1 := B1.out
  refine (wpIn_wide (n := 4)).1 ?_
  refine wpIn_rangeBy (F := Fence.wide) rfl (by omega) (gf := 99) rfl trivial (enters_of Tryd.func99 (by kernel_rfl) rfl)
    (keys1_by key info (.slice A ni c) hkey hinfo g (w.heap.size + 3) (w.heap.size + 3 + 1) (w.heap.size + 3 + 1 + 1) w1.heap.size (w.heap.size + 1 + 1) 3 N (N + 1020) w1 hrows hN0 (by omega) (by omega) (Nat.le_refl _) ?hob ?hg)
    (fun A B h => h.oth.from _) (fun h k => h.trans k) (fun s W l o o' hl ho hc _ => EKp.putObj W o o' hl ho hc) (fun k vs W h => by rw [show vs = _ from h]; rfl)
    (fun k s W => EInv key info n g w1.heap.size (w.heap.size + 1) (w.heap.size + 1 + 1) (N + 1020) w k s W)
    (fun cd k W => cd = .exit 0 ∧ EFin key info n g w1.heap.size (w.heap.size + 1) (w.heap.size + 1 + 1) (N + 1020) w k W)
    (fun k => Turn.ownFrom fun s W W' h ht => h.turn (by omega) ht) (fun cd => Turn.ownFrom fun s W W' h ht => ⟨h.1, h.2.turn (by omega) ht⟩)
    (fun k s A B h hst => h.st (by omega) (by omega) (by omega) hst) (fun cd k A B h hst => ⟨h.1, h.2.st (by omega) (by omega) (by omega) hst⟩)
    (fun _ s W h => by rcases h.big with h | h <;> omega) ?h0 ?hround (fun D k s W _ h => False.elim h) ?hstop
  case hob => rintro r (rfl | rfl | rfl | rfl | rfl | rfl) <;> omega
  case hg => exact ⟨by omega, by omega, by omega⟩
  case h0 => exact fun W hW => ⟨HUP.then hW, (hrows.met.step hW).mono (by omega), hnum.step hW, hW.size, .inl rfl, _, hob.step hW, by simpa [outK] using Own8.nil _ _ _, fun b hb => by simp [Value.ownBlock] at hb⟩
  case hround =>
    intro l k s vs W hk hi hsW harg
    obtain rfl : vs = _ := harg
    obtain ⟨T, hT⟩ : ∃ T, T = tK key info (k + 1) := ⟨_, rfl⟩
    have hTl : T.length = 32 := by rw [hT, tK_length]
    rw [← hT]
    have HT := Lib.hid hT
    clear hT
    have hwl := hi.sz
    gi_wp2_with fail
    have hal : Below W.heap.size W (W.alloc (.cells (u8s T) 33)) := (by repeat (first | with_reducible exact Below.refl _ _ | with_reducible assumption | refine Below.drew ?_ | refine below_drewN ?_ | refine Below.alloc ?_ (by first | omega | (simp; done) | (simp; omega)) _ | refine below_setRow ?_ (by omega) _ | refine Below.setCell ?_ (by first | omega | (simp; done) | (simp; omega)) _))
    refine ⟨keepsFrom_below hal, ⟨hal.size, fun r hr _ => hal.block r (by omega), fun r cs t fr _ hc => by rw [hal.block r (Array.getElem?_eq_some_iff.1 hc).1]; exact hc⟩, fun W2 ht2 => ?_⟩
    have rT : RowIs W2 W.heap.size (u8s T) := (RowIs.new W _ _).ck ht2.ck
    replace hi := (hi.step hal).turn (by omega) ht2
    have hsz2 : W.heap.size + 1 ≤ W2.heap.size := by
      have q := ht2.ck.size
      rw [show (W.alloc (.cells (u8s T) 33)).heap.size = W.heap.size + 1 by simp] at q
      exact q
    clear ht2 hal
    obtain ⟨v, ho, hown, hvs⟩ := hi.out
    have hlen := outK_length key info k
    obtain ⟨Av, cv, rfl⟩ := hown.slice
    rw [hlen] at hown ho hvs
    have hS2 : TwoK ⟨w.heap.size + 1 + 1, 0, none⟩ ⟨w.heap.size + 1 + 1, 0, none⟩ (.slice Av (32 * k) cv) (.slice Av (32 * k) cv) W2 := ⟨ho.cell0, ho.cell0⟩
    have hbT : Bs W2 (.slice (some ⟨W.heap.size, 0, none⟩) 32 32) T := Bs.row rT 32 32 hTl.symm (Nat.le_refl _) (by omega)
    gi_wp2_with fail
    refine wpIn_region_lexT (.inr ⟨l, rfl⟩) [] [0] (TwoK ⟨w.heap.size + 1 + 1, 0, none⟩ ⟨w.heap.size + 1 + 1, 0, none⟩ (.slice Av (32 * k) cv) (.slice Av (32 * k) cv)) (by kernel_rfl) (by decide +kernel) (by decide +kernel) hS2 (fun hS => ?_)
    (go_wp2_with (first | (refine wpLexT_pure rfl (fun _ _ => ?_); go_simp; refine ⟨_, fun w9 hw9 => (by have s1 := hw9.1; go_simp; rfl), ?_⟩) | (refine wpLexT_pure0 rfl (fun _ _ => ?_); go_simp; try go_bits) | (refine wpLexT_read rfl (fun _ _ => ?_); go_simp; try go_bits)))
    refine wpLexT_loud rfl (fun KL hKL => ?_)
    refine wpList_wanted (by rfl) (fun K1 hK1 => ?_)
    have hLL : outK key info k ++ T = outK key info (k + 1) := by rw [outK, ← HT.out]
    have hNN : (outK key info (k + 1)).length = 32 * (k + 1) := outK_length _ _ _
    have hd : Below W2.heap.size W2 W2.drew := (by repeat (first | with_reducible exact Below.refl _ _ | with_reducible assumption | refine Below.drew ?_ | refine below_drewN ?_ | refine Below.alloc ?_ (by first | omega | (simp; done) | (simp; omega)) _ | refine below_setRow ?_ (by omega) _ | refine Below.setCell ?_ (by first | omega | (simp; done) | (simp; omega)) _))
    have hsd : W2.drew.heap.size = W2.heap.size := rfl
    refine wp_appendBsG Tryd.underlying27 Tryd.info8 (.tmp 26) (.tmp 27) rfl w1.heap.size rfl (hown.step hd) rfl (hbT.step hd) hLL hNN (by omega) (by omega) ?_
    intro A4 c4 w4 own4 bel4 ko4 gr4
    refine hK1 _ _ ?_
    go_wp2_with fail
    have hob4 : RowIs w4 (w.heap.size + 1 + 1) #[.slice Av (32 * k) cv] := (ho.step hd).below bel4 (by omega)
    refine hKL _ _ ⟨hob4.cell0, hob4.cell0⟩ (fun _ => ?_)
    have hc4 := hob4.cell0
    have hf4 := hob4.fz 0
    refine wpLexT_last (fun KL hKL => ?_)
    go_wp2_with fail
    obtain ⟨w5, hw5⟩ : ∃ w5, w5 = w4.setCell ⟨w.heap.size + 1 + 1, 0, none⟩ (.slice A4 (32 * (k + 1)) c4) := ⟨_, rfl⟩
    have R5 : RowIs w5 (w.heap.size + 1 + 1) #[.slice A4 (32 * (k + 1)) c4] := by rw [hw5]; simpa using hob4.put 0 (.slice A4 (32 * (k + 1)) c4)
    have own5 : Own8 5 w5 w1.heap.size (.slice A4 (32 * (k + 1)) c4) (outK key info (k + 1)) := by rw [hw5]; exact own4.keep fun j hj _ => Below.heap_setCell _ _ _ _ (by simp; omega)
    have N4 : RowIs w4 (w.heap.size + 1) #[.int .i64 n] := (hi.num.step hd).below bel4 (by omega)
    have N5 : RowIs w5 (w.heap.size + 1) #[.int .i64 n] := by rw [hw5]; exact N4.put_ne (by simp) _
    have hbW : Below w.heap.size W2 w5 := by rw [hw5]; exact ((hd.mono (by omega)).trans (bel4.mono (by omega))).setCell (by simp; omega) _
    have ko5 : KeepsFrom w1.heap.size W2 w5 := by
      rw [hw5]
      have k0 : KeepsOthers W2 W2.drew := ⟨hd.size, fun q o hq _ => by rw [hd.block q (Array.getElem?_eq_some_iff.1 hq).1]; exact hq⟩
      exact (k0.trans (ko4.trans (KeepsOthers.setCell _ _ _))).from _
    have ek5 : EKp w1.heap.size (w.heap.size + 1 + 1) s W2 w5 := by
      refine ⟨hbW.size, fun r hr hne => ?_, fun r cs t fr hr hc => ?_⟩
      · rw [hw5, Below.heap_setCell _ _ _ _ (by simp; omega), bel4.block r hr, hd.block r (by omega)]
      · have hlt := (Array.getElem?_eq_some_iff.1 hc).1
        rw [hw5, Below.heap_setCell _ _ _ _ (by simp; omega), gr4.block r hlt (fun e => by have := hvs r e.symm; omega), hd.block r hlt]
        exact hc
    have up5 : Upd g w w5 := hi.upd.thenB hbW
    have mt5 : MetB w5 g (N + 1020) := by
      obtain ⟨n0, q0, q1, q2⟩ := hi.met.step hd
      rw [hw5]
      exact ⟨n0, q0, q1, RowIs.put_ne (RowIs.below q2 bel4 (by omega)) (by simp; omega) _⟩
    have s5 : w1.heap.size ≤ w5.heap.size := by have := hbW.size; omega
    rw [← hw5]
    have c5 := R5.cell0
    have n5 := N5.cell0
    clear hw5 own4 bel4 ko4 gr4 hob4 hc4 hf4 hS2 hS hbT hown ho hi hd rT N4 hbW b1
    by_cases hfin : n ≤ 32 * (k + 1)
    · have hge : (n : Int) ≤ ((32 * (k + 1) : Nat) : Int) := by omega
      gi_wp2_with fail
      exact ⟨ko5, rfl, up5, mt5, N5, hfin, by omega, _, R5, own5⟩
    · have hge : ¬ (n : Int) ≤ ((32 * (k + 1) : Nat) : Int) := by omega
      gi_wp2_with fail
      exact ⟨ko5, ek5, up5, mt5, N5, s5, .inr (by omega), _, R5, own5, fun b hb => own5.lt hb⟩
  case hstop =>
    rintro D cd k W hD ⟨rfl, hi⟩ hDd
    obtain ⟨v, ho, hown⟩ := hi.out
    have hlen := outK_length key info k
    obtain ⟨Av, cv, rfl⟩ := hown.slice
    have hbs := hown.bs (by rw [hlen]; have := hi.kb; omega)
    rw [hlen] at hbs hown ho
    have htk := hbs.take n hi.big
    rw [expB_of key info n k hi.big] at htk
    have hle := hown.len.2
    rw [hlen] at hle
    have hcl : ¬ (cv : Int) < n := by have := hi.big; omega
    have hc0 := ho.cell0
    have hn0 := hi.num.cell0
    have htu : Turn w1.heap.size W (W.putObj D (.deferred none)) := ⟨some D, grownBy_putObj' _ _ _, fun r e => by cases e; exact ⟨hD, _, hDd, rfl⟩⟩
    have hfin := hi.turn (by omega) htu
    have HTK := Lib.hid htk
    clear hbs hown ho htk hi
    refine wpIn_wide.2 ?_
    go_wp2_with fail
    refine ⟨by simp, .inl ⟨_, _, rfl, run_takeDeferred hDd, ?_⟩⟩
    exact ⟨_, results_tmp2 rfl _ _ _, _, rfl, (HTK.out).ck htu.ck, hfin.met, hfin.upd⟩
end
section
open Go.RowKit
def ExpdNone (c : Int) (w : World) (e : Ending) (w' : World) : Prop := e = .returned (.tuple #[.slice none 0 0, .int .i64 c]) ∧ Below w.heap.size w w'
set_option maxRecDepth 100000 in
theorem expand_none (g : Nat) (key : List UInt8) (hkey : key.length = 32) (A : Option Addr) (ni c : Nat) (n : Int) (h : n < 0 ∨ 8160 < n) (w : World) :
    Calls Tryd.prog 30 #[.pointer (some ⟨g, 0, none⟩), .agg (u8s key), .slice A ni c, .int .i64 n] w (ExpdNone 1 w) := by
  by_cases h0 : n < 0
  · go_enter Tryd.func30, Tryd.ntmps30
    go_wp2_with fail
    refine bodyPost_ret (results_tmp2 rfl _ _ _) rfl ?_
    exact ⟨rfl, (by repeat (first | with_reducible exact Below.refl _ _ | with_reducible assumption | refine Below.drew ?_ | refine below_drewN ?_ | refine Below.alloc ?_ (by first | omega | (simp; done) | (simp; omega)) _ | refine below_setRow ?_ (by omega) _ | refine Below.setCell ?_ (by first | omega | (simp; done) | (simp; omega)) _))⟩
  · have h1 : 8160 < n := by omega
    go_enter Tryd.func30, Tryd.ntmps30
    go_wp2_with fail
    refine bodyPost_ret (results_tmp2 rfl _ _ _) rfl ?_
    exact ⟨rfl, (by repeat (first | with_reducible exact Below.refl _ _ | with_reducible assumption | refine Below.drew ?_ | refine below_drewN ?_ | refine Below.alloc ?_ (by first | omega | (simp; done) | (simp; omega)) _ | refine below_setRow ?_ (by omega) _ | refine Below.setCell ?_ (by first | omega | (simp; done) | (simp; omega)) _))⟩
set_option maxRecDepth 100000 in
theorem expand_zero (g : Nat) (key : List UInt8) (hkey : key.length = 32) (A : Option Addr) (ni c : Nat) (w : World) :
    Calls Tryd.prog 30 #[.pointer (some ⟨g, 0, none⟩), .agg (u8s key), .slice A ni c, .int .i64 0] w (ExpdNone 0 w) := by
  go_enter Tryd.func30, Tryd.ntmps30
  go_wp2_with fail
  refine bodyPost_ret (results_tmp2 rfl _ _ _) rfl ?_
  exact ⟨rfl, (by repeat (first | with_reducible exact Below.refl _ _ | with_reducible assumption | refine Below.drew ?_ | refine below_drewN ?_ | refine Below.alloc ?_ (by first | omega | (simp; done) | (simp; omega)) _ | refine below_setRow ?_ (by omega) _ | refine Below.setCell ?_ (by first | omega | (simp; done) | (simp; omega)) _))⟩
end
end Go.Proofs.YtopmdbmnlflpgaaDoor
