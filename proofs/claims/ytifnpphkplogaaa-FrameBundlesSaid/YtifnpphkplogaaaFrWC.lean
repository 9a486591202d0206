/- Layer 9: an In's bytes and keys lie in memory of their own. Printed by gen_ino.py. | Layer 10: parts of a frame's row; a frame put together. | Layer 10: a frame of bytes, by the program. Printed by gen_frl.py. | Layer 10: a frame of bytes, by the document. Printed by gen_frm.py. -/
import Derived.Test.YtifnpphkplogaaaInW
import Derived.Test.YtifnpphkplogaaaRInW
import Derived.Test.YtifnpphkplogaaaFrWB
namespace Go.Proofs.Ytifnpphkplogaaa
section
/-- a slice value that lies in no block below B -/
def Fresh (B : Nat) (v : Value) : Prop := ∀ g o s n c, v = .slice (some ⟨g, o, s⟩) n c → B ≤ g
theorem Fresh.less {B B' : Nat} {v : Value} (h : Fresh B v) (hB : B' ≤ B) : Fresh B' v := fun g o s n c e => Nat.le_trans hB (h g o s n c e)
theorem fresh_nil (B n c : Nat) : Fresh B (.slice none n c) := fun g o s n' c' e => by injection e with e; cases e
theorem own_fresh {w : World} {base k n : Nat} {T : TypeId} {v : Value} {cs : List Value} (h : w.ownsRow base T k v n cs) : Fresh base v := by
  intro g o s m c e
  rcases h.2 with ⟨h1, _⟩ | ⟨g', cap, cur, hv, hg, _⟩
  · rw [h1] at e; cases e
  · rw [hv] at e
    injection e with e
    injection e with e
    injection e with e
    omega
theorem Bs.updF {w w' : World} {v : Value} {l : List UInt8} {p B : Nat} (h : Bs w v l) (hu : Upd p w w') (hf : Fresh B v) (hp : p < B) : Bs w' v l := by
  obtain ⟨A, c, rfl, h2, h3, h4⟩ := h
  refine ⟨A, c, rfl, h2, h3, fun h0 => ?_⟩
  obtain ⟨b, o, rfl, hb, hc⟩ := h4 h0
  have hne : b ≠ p := by have := hf b o none _ _ rfl; omega
  exact ⟨b, o, rfl, Nat.lt_of_lt_of_le hb hu.size, fun i hi => (hu.cell hb hne).trans (hc i hi)⟩
theorem KsL.updF {w w' : World} {v : Value} {ks : List (List UInt8)} {p B : Nat} (h : KsL w v ks) (hu : Upd p w w') (hf : Fresh B v) (hp : p < B) : KsL w' v ks := by
  obtain ⟨A, c, rfl, h2, h3⟩ := h
  refine ⟨A, c, rfl, h2, fun h0 => ?_⟩
  obtain ⟨b, o, rfl, h5, h6⟩ := h3 h0
  have hne : b ≠ p := by have := hf b o none _ _ rfl; omega
  exact ⟨b, o, rfl, Nat.lt_of_lt_of_le h5 hu.size, fun i hi j u hu' => by rw [hu.cell (p := ⟨b, o + i * 32 + j, none⟩) h5 hne]; exact h6 i hi j u hu'⟩
section
open Go.RowKit
def CloneRes (w : World) (l : List UInt8) (e : Ending) (w' : World) : Prop := ∃ v, e = .returned v ∧ Bs w' v l ∧ Fresh w.heap.size v ∧ Below w.heap.size w w'
set_option maxRecDepth 100000 in
theorem clone_own {w : World} {v : Value} {l : List UInt8} (h : Bs w v l) : Calls Try.prog 73 #[v] w (CloneRes w l) := by
  have hl := h.le
  obtain ⟨A, c, rfl, -, -, -⟩ := id h
  obtain ⟨N, hN⟩ : ∃ N, l.length = N := ⟨_, rfl⟩
  have HN := Lib.hid hN
  rw [hN] at h hl ⊢
  clear hN
  cases A with
  | none =>
    have h0 : l = [] := by
      obtain ⟨A', c', h1, h2, h3, h4⟩ := h
      injection h1 with e1 e2 e3
      subst e1
      rcases Nat.eq_zero_or_pos l.length with h0 | h0
      · exact List.eq_nil_of_length_eq_zero h0
      · obtain ⟨g, o, e, _⟩ := h4 h0; cases e
    have H0 := Lib.hid h0
    have hN0 : N = 0 := by rw [← HN.out, h0]; rfl
    subst hN0
    have hnil := fun (w : World) => Lib.run_eql_slice_nil (P := Try.prog) w 25 5 none 0 c 0 0 Try.underlying25
    clear h h0 hl
    go_enter Try.func73, Try.ntmps73
    go_wp2_with fail
    go_ret
    rw [H0.out]
    exact ⟨_, rfl, Bs.nil _, fresh_nil _ _ _, Below.refl _ _⟩
  | some a =>
    have hb := h.step ((Below.refl w.heap.size w).alloc (Nat.le_refl _) (.cells #[] 5))
    have ho := Own8.empty (T := 5) (g := w.heap.size) w (base := w.heap.size) rfl (Nat.le_refl _)
    clear h
    have hnil := fun (w : World) => Lib.run_eql_slice_nil (P := Try.prog) w 25 5 (some a) N c 0 0 Try.underlying25
    go_enter Try.func73, Try.ntmps73
    go_wp2_with (at_builtin; refine wpList_appendBs Try.underlying25 Try.info8 rfl (.tmp 5) (.tmp 6) rfl w.heap.size rfl ho rfl hb (List.nil_append _) HN.out (by omega) (by simp) ?_; intro A' c' w' own1 bel1)
    go_ret
    exact ⟨_, rfl, by have := own1.bs (by rw [HN.out]; exact hl); exact this, own_fresh own1, ((Below.refl w.heap.size w).alloc (Nat.le_refl _) _).trans bel1⟩

def BsInO (B g : Nat) (l : List UInt8) (i' : InP) (w : World) (e : Ending) (w' : World) : Prop := ∃ v, e = .returned v ∧ Bs w' v l ∧ Fresh w.heap.size v ∧ InIs w' B g i' ∧ Upd g w w'
set_option maxRecDepth 100000 in
set_option maxHeartbeats 1600000 in
theorem inbytes_own (B g : Nat) (i : InP) (most : Int) (w : World) (h : InIs w B g i) :
    Calls Try.prog 35 #[.pointer (some ⟨g, 0, none⟩), .int .i64 most] w (BsInO B g (ibytesP i most).1 (ibytesP i most).2 w) := by
  have HN := Lib.hid (innum_any B g i 2)
  have hm := inum2_lt i
  have hnn : n64 (inumP i 2).1 = ((inumP i 2).1.toNat : Int) := n64_def _
  unfold ibytesP ilimP
  obtain ⟨m, hmm⟩ : ∃ m, m = (inumP i 2).1.toNat := ⟨_, rfl⟩
  unfold NumIn at HN
  rw [hnn] at HN
  rw [← hmm] at hm HN ⊢
  obtain ⟨j, hj⟩ : ∃ j, j = (inumP i 2).2 := ⟨_, rfl⟩
  rw [← hj] at HN ⊢
  clear hmm hj hnn
  have i1 : (m : Int) ≤ 9223372036854775807 := by omega
  by_cases hlim : min most 4000 < (m : Int)
  · go_enter Try.func35, Try.ntmps35
    go_wp2_with fail
    refine (HN.out _ h).mono ?_
    rintro e w1 ⟨rfl, hi1, hu1⟩
    go_wp2_with fail
    refine (infail_any B g j 2 _ hi1).mono ?_
    rintro e w2 ⟨rfl, hi2, hu2⟩
    go_wp2_with fail
    refine (intake_any B g _ m _ hi2).mono ?_
    rintro e w3 ⟨v3, rfl, hv3, hi3, hu3⟩
    go_wp2_with fail
    have hsz := hi3.lt; have hBg := hi3.1
    refine (clone_own (hv3.bs (by omega))).mono ?_
    rintro e w4 ⟨v4, rfl, hv4, hf4, hb4⟩
    go_wp2_with fail
    go_ret
    exact ⟨v4, rfl, hv4, hf4.less (((hu1.trans hu2).trans hu3)).size, hi3.step hb4, (((hu1.trans hu2).trans hu3)).then hb4⟩
  · go_enter Try.func35, Try.ntmps35
    go_wp2_with fail
    refine (HN.out _ h).mono ?_
    rintro e w1 ⟨rfl, hi1, hu1⟩
    go_wp2_with fail
    refine (intake_any B g _ m _ hi1).mono ?_
    rintro e w3 ⟨v3, rfl, hv3, hi3, hu3⟩
    go_wp2_with fail
    have hsz := hi3.lt; have hBg := hi3.1
    refine (clone_own (hv3.bs (by omega))).mono ?_
    rintro e w4 ⟨v4, rfl, hv4, hf4, hb4⟩
    go_wp2_with fail
    go_ret
    exact ⟨v4, rfl, hv4, hf4.less ((hu1.trans hu3)).size, hi3.step hb4, ((hu1.trans hu3)).then hb4⟩

end
section
open Go.RowKit Go.Shelf
attribute [local go_sem ↓] xbslK
attribute [local go_sem] bslK1
attribute [local go_sem] Oper.semAt_some
def KsInO (B g : Nat) (ks : BLs) (i' : InP) (w : World) (e : Ending) (w' : World) : Prop := ∃ v, e = .returned v ∧ KsL w' v ks ∧ Fresh w.heap.size v ∧ InIs w' B g i' ∧ Upd g w w'
set_option maxRecDepth 100000 in
set_option maxHeartbeats 3200000 in
theorem inkeys_own (B g : Nat) (i : InP) (most : Int) (w : World) (h : InIs w B g i) :
    Calls Try.prog 40 #[.pointer (some ⟨g, 0, none⟩), .int .i64 most] w (KsInO B g (ikeysP i most).1 (ikeysP i most).2 w) := by
  have HN := Lib.hid (innum_any B g i 2)
  have hm := inum2_lt i
  have hnn : n64 (inumP i 2).1 = ((inumP i 2).1.toNat : Int) := n64_def _
  unfold ikeysP ilimP
  obtain ⟨m, hmm⟩ : ∃ m, m = (inumP i 2).1.toNat := ⟨_, rfl⟩
  unfold NumIn at HN
  rw [hnn] at HN
  simp only [← hmm] at hm HN ⊢
  obtain ⟨j, hj⟩ : ∃ j, j = (inumP i 2).2 := ⟨_, rfl⟩
  simp only [← hj] at HN ⊢
  clear hmm hj hnn
  obtain ⟨j2, hj2⟩ : ∃ j2, j2 = if min most 100 < (m : Int) then failP j 2 else j := ⟨_, rfl⟩
  rw [← hj2]
  have i1 : (m : Int) ≤ 9223372036854775807 := by omega
  obtain ⟨all, hall⟩ : ∃ all, all = (takeP j2 (32 * m)).1 := ⟨_, rfl⟩
  obtain ⟨j3, hj3⟩ : ∃ j3, j3 = (takeP j2 (32 * m)).2 := ⟨_, rfl⟩
  have HT := Lib.hid (intake_any B g j2 (32 * m))
  rw [← hall, ← hj3] at HT ⊢
  obtain ⟨N, hN⟩ : ∃ N, all.length = 32 * N := by
    rw [hall]; unfold takeP
    split
    · split
      · exact ⟨m, by simp; omega⟩
      · exact ⟨0, rfl⟩
    · exact ⟨0, rfl⟩
  have hNm : N ≤ m := by
    have := takeP_len j2 (32 * m)
    rw [← hall, hN] at this
    omega
  rw [show all.length / 32 = N by omega]
  have HALL := Lib.hid hN
  have HJ2 := Lib.hid hj2
  clear hall hj3 hN hj2
  refine (callsIn_wide (n := 4)).1 (callsIn_of_wp_marks Try.func40 rfl trivial ?_)
  simp only [Try.ntmps40, List.size_toArray, List.length_cons, List.length_nil, Nat.reduceAdd, Nat.reduceSub, Array.replicate_succ, Array.replicate_zero, List.push_toArray, List.append_toArray, List.nil_append, List.cons_append]
  refine wpIn_wide.2 ?_
  go_wp2_with fail
  refine (HN.out _ h).mono ?_
  rintro e w1 ⟨rfl, hi1, hu1⟩
  by_cases hlim : min most 100 < (m : Int)
  · go_wp2_with fail
    refine (infail_any B g j 2 _ hi1).mono ?_
    rintro e w2 ⟨rfl, hi2, hu2⟩
    have hj2 : failP j 2 = j2 := by rw [HJ2.out, if_pos hlim]
    rw [hj2] at hi2
    replace hu2 := hu1.trans hu2
    have hl2 := hi2.lt
    have hBg := hi2.1
    go_wp2_with fail
    refine (HT.out _ hi2).mono ?_
    rintro e w3 ⟨v3, rfl, hv3, hi3, hu3⟩
    have hl3 := hi3.lt
    obtain ⟨A3, c3, rfl, hc3, -⟩ := id hv3
    rw [HALL.out] at hc3 hv3 ⊢
    go_wp2_with fail
    refine (chunk_any A3 (32 * N) c3 _).mono ?_
    rintro e w4 ⟨rfl, hw4⟩
    obtain ⟨ob, hob⟩ : ∃ ob, ob = w3.heap.size := ⟨_, rfl⟩
    unfold chunkF
    rw [show (w3.alloc (Obj.cells #[.slice none 0 0] 41)).heap.size = ob + 1 by rw [hob]; simp, ← hob]
    have b4 : w4.heap.size = ob + 3 := by rw [hw4, hob]; simp
    have ho4 : RowIs w4 ob #[.slice none 0 0] := by
      rw [hw4]; exact ((RowIs.new' (by rw [hob])).alloc _).alloc _
    have hc4 : CRows A3 N c3 (ob + 1) (ob + 1 + 1) w4 := by
      refine ⟨?_, ?_⟩ <;> rw [hw4]
      · exact (RowIs.new' (by rw [hob]; simp)).alloc _
      · exact RowIs.new' (by rw [hob]; simp)
    have hb34 : Below w3.heap.size w3 w4 := by rw [hw4]; exact (by repeat (first | with_reducible exact Below.refl _ _ | with_reducible assumption | refine Below.drew ?_ | refine below_drewN ?_ | refine Below.alloc ?_ (by first | omega | (simp; done) | (simp; omega)) _ | refine below_setRow ?_ (by omega) _ | refine Below.setCell ?_ (by first | omega | (simp; done) | (simp; omega)) _))
    have hBo : B ≤ ob := by omega
    have hgo : g < ob := by omega
    rw [← hob] at hb34
    have HOB := Lib.hid hob
    clear hw4 hob
    go_wp2_with fail
    refine (wpIn_wide (n := 4)).1 ?_
    refine wpIn_rangeBy (F := Fence.wide) rfl (by omega) (gf := 102) rfl trivial (enters_of Try.func102 (by kernel_rfl) rfl)
      (chunk1_by A3 c3 (ob + 1) (ob + 1 + 1) w4.heap.size ob N 3 w4 hc4 hc3 (by omega) (Nat.le_refl _) ⟨by omega, by omega⟩)
      (fun A B h => (keepsOthers_below h).from _) (fun h k => h.trans k) (fun s W l o o' hl _ _ _ => BKp.putObj W o' hl) (fun k vs W h => by rw [show vs = _ from h]; rfl)
      (fun k _ W => KInv all w4.heap.size ob w3 k W)
      (fun cd k W => False)
      (fun k => Turn.ownFrom fun s W W' h ht => h.turn (by have := HOB.out; omega) ht) (fun cd => Turn.ownFrom fun s W W' h ht => h)
      (fun k s A B h hst => h.step hst) (fun cd k A B h hst => h)
      (fun h => False.elim h) ?h0 ?hround ?hdone (fun D c k W _ h => False.elim h)
    case h0 =>
      intro W hW
      have e := HOB.out
      exact ⟨(e ▸ hb34).trans (hW.mono (by omega)), hW.size, _, ho4.step hW, OwnK.nil _ _⟩
    case hround =>
      intro l k s vs W hk hi hsW harg
      obtain rfl : vs = _ := harg
      gi_wp2_with fail
      refine ⟨(KeepsOthers.refl _).from _, ⟨Nat.le_refl _, fun _ _ _ => rfl⟩, fun W2 ht2 => ?_⟩
      replace hi := hi.turn (by have := HOB.out; omega) ht2
      clear ht2 hsW
      have hbel := hi.bel
      have hpart : BsB W2 B (.slice (subA A3 (32 * k + 32) (32 * k)) 32 32) ((all.drop (32 * k)).take 32) := (hv3.keep (hbel.mono (by omega))).part (32 * k) 32 (by omega)
      have hKl : ((all.drop (32 * k)).take 32).length = 32 := by have := HALL.out; simp; omega
      have hcut : cutK all (k + 1) = cutK all k ++ [(all.drop (32 * k)).take 32] := rfl
      have hck := cutK_length all k
      have hsz := hi.sz
      obtain ⟨K, hK⟩ : ∃ K, K = (all.drop (32 * k)).take 32 := ⟨_, rfl⟩
      rw [← hK] at hpart hKl hcut
      obtain ⟨Ak, hAk⟩ : ∃ Ak, Ak = subA A3 (32 * k + 32) (32 * k) := ⟨_, rfl⟩
      rw [← hAk] at hpart ⊢
      clear hK hAk
      have htk := toKey_bs (hpart.bs (by omega))
      have e1 : keyOf K = K := by unfold keyOf; rw [if_pos hKl]
      have e2 : keyErr K = 0 := by unfold keyErr; rw [hKl]; rfl
      unfold KeyRes at htk
      rw [e1, e2] at htk
      have HTK := Lib.hid htk
      have HCUT := Lib.hid hcut
      have HCK := Lib.hid hck
      clear htk e1 e2 hcut hck
      gi_wp2_with fail
      refine ⟨trivial, calls_wideIn (.inr ⟨l, rfl⟩) (HTK.out.mono ?_)⟩
      rintro e w5 ⟨rfl, hb5⟩
      have hi5 := hi.step hb5
      obtain ⟨vo, ho5, hown5⟩ := hi5.out
      have RZ : RowIs (w5.alloc (.cells (u8s (zeros 32)) 72)) w5.heap.size (u8s (zeros 32)) := RowIs.new _ _ _
      have hz5 := zeros_length 32
      obtain ⟨Ao, co', rfl⟩ := hown5.slice
      rw [HCK.out] at ho5 hown5
      have co := ho5.cell0
      have fo := ho5.fz 0
      have lo := ho5.lt
      have hq5 : Below w5.heap.size w5 ((w5.alloc (.cells (u8s K) 72)).alloc (.cells (u8s K) 72)) := (by repeat (first | with_reducible exact Below.refl _ _ | with_reducible assumption | refine Below.drew ?_ | refine below_drewN ?_ | refine Below.alloc ?_ (by first | omega | (simp; done) | (simp; omega)) _ | refine below_setRow ?_ (by omega) _ | refine Below.setCell ?_ (by first | omega | (simp; done) | (simp; omega)) _))
      have R7 : RowIs ((w5.alloc (.cells (u8s K) 72)).alloc (.cells (u8s K) 72)) (w5.heap.size + 1) (u8s K) := RowIs.new' (by simp)
      have own7 := hown5.step hq5
      have ho7 := ho5.step hq5
      have hz7 := hq5.size
      have hs5 := hi5.sz
      gi_wp2_with (gi_at_builtin; refine wpListIn_appendK rfl (.tmp 32) (.tmp 34) rfl w4.heap.size (w5.heap.size + 1) rfl own7 rfl R7 hKl (by rw [HCK.out]) (by omega) (by omega) ?_; intro A8 c8 w8 own8 bel8 ko8; have ho8 := ho7.below bel8 (by omega); have fo8 := ho8.fz 0; have co8 := ho8.cell0)
      have lb5 := hb5.size
      have lb8 := bel8.size
      have ls4 : ob < w4.heap.size := by omega
      have hh9 : ∀ r, r ≠ ob → (w8.setCell ⟨ob, 0, none⟩ (.slice A8 (k + 1) c8)).heap[r]? = w8.heap[r]? := fun r hr => Below.heap_setCell _ _ _ _ hr
      have hz9 : (w8.setCell ⟨ob, 0, none⟩ (.slice A8 (k + 1) c8)).heap.size = w8.heap.size := by simp [World.setCell]
      refine ⟨((keepsOthers_below hb5).trans ((keepsOthers_below hq5).trans (ko8.trans (KeepsOthers.setCell _ _ _)))).from _, ⟨by omega, fun r hr hne => ?_⟩, ⟨?_, by omega, _, by simpa using ho8.put 0 (.slice A8 (k + 1) c8), ?_⟩⟩
      · rw [hh9 r hne, bel8.block r hr, hq5.block r (by omega), hb5.block r (by omega)]
      · have e := HOB.out
        exact ((hi5.bel.trans (hq5.mono (by omega))).trans (bel8.mono (by omega))).setCell (by simp; omega) _
      · rw [HCUT.out]
        exact own8.keep fun r hr _ => hh9 r (by omega)
    case hdone =>
      intro D k s W hD hk hi hDd
      subst hk
      obtain ⟨v, ho, hown⟩ := hi.out
      have hc0 := ho.cell0
      have hcl := cutK_length all k
      have hka : ∀ x ∈ cutK all k, x.length = 32 := cutK_all all k (by rw [HALL.out]; omega)
      go_wp2_with fail
      refine ⟨by simp, .inl ⟨_, _, rfl, run_takeDeferred hDd, ?_⟩⟩
      have htu : Turn w4.heap.size W (W.putObj D (.deferred none)) := ⟨some D, grownBy_putObj' _ _ _, fun r e => by cases e; exact ⟨hD, _, hDd, rfl⟩⟩
      have hi2 := hi.turn (by have := HOB.out; omega) htu
      obtain ⟨v9, ho9, hown9⟩ := hi2.out
      have hv9 : v9 = v := by
        have e1 := ho9.cell0
        have e2 := (ho.ck htu.ck).cell0
        rw [e1] at e2
        exact Option.some.inj e2
      subst hv9
      exact ⟨_, results_tmp rfl _ _ _, v9, rfl, hown9.ks hka, (own_fresh hown9).less (Nat.le_trans (hu2.trans hu3).size (by have := HOB.out; omega)), hi3.upd (Upd.of hi2.bel) (by have := HOB.out; omega) (by omega), (hu2.trans hu3).then hi2.bel⟩
  · have hj2 : j2 = j := by rw [HJ2.out, if_neg hlim]
    have hi2 := hi1
    have hu2 := hu1
    rw [← hj2] at hi2
    have hl2 := hi2.lt
    have hBg := hi2.1
    go_wp2_with fail
    refine (HT.out _ hi2).mono ?_
    rintro e w3 ⟨v3, rfl, hv3, hi3, hu3⟩
    have hl3 := hi3.lt
    obtain ⟨A3, c3, rfl, hc3, -⟩ := id hv3
    rw [HALL.out] at hc3 hv3 ⊢
    go_wp2_with fail
    refine (chunk_any A3 (32 * N) c3 _).mono ?_
    rintro e w4 ⟨rfl, hw4⟩
    obtain ⟨ob, hob⟩ : ∃ ob, ob = w3.heap.size := ⟨_, rfl⟩
    unfold chunkF
    rw [show (w3.alloc (Obj.cells #[.slice none 0 0] 41)).heap.size = ob + 1 by rw [hob]; simp, ← hob]
    have b4 : w4.heap.size = ob + 3 := by rw [hw4, hob]; simp
    have ho4 : RowIs w4 ob #[.slice none 0 0] := by
      rw [hw4]; exact ((RowIs.new' (by rw [hob])).alloc _).alloc _
    have hc4 : CRows A3 N c3 (ob + 1) (ob + 1 + 1) w4 := by
      refine ⟨?_, ?_⟩ <;> rw [hw4]
      · exact (RowIs.new' (by rw [hob]; simp)).alloc _
      · exact RowIs.new' (by rw [hob]; simp)
    have hb34 : Below w3.heap.size w3 w4 := by rw [hw4]; exact (by repeat (first | with_reducible exact Below.refl _ _ | with_reducible assumption | refine Below.drew ?_ | refine below_drewN ?_ | refine Below.alloc ?_ (by first | omega | (simp; done) | (simp; omega)) _ | refine below_setRow ?_ (by omega) _ | refine Below.setCell ?_ (by first | omega | (simp; done) | (simp; omega)) _))
    have hBo : B ≤ ob := by omega
    have hgo : g < ob := by omega
    rw [← hob] at hb34
    have HOB := Lib.hid hob
    clear hw4 hob
    go_wp2_with fail
    refine (wpIn_wide (n := 4)).1 ?_
    refine wpIn_rangeBy (F := Fence.wide) rfl (by omega) (gf := 102) rfl trivial (enters_of Try.func102 (by kernel_rfl) rfl)
      (chunk1_by A3 c3 (ob + 1) (ob + 1 + 1) w4.heap.size ob N 3 w4 hc4 hc3 (by omega) (Nat.le_refl _) ⟨by omega, by omega⟩)
      (fun A B h => (keepsOthers_below h).from _) (fun h k => h.trans k) (fun s W l o o' hl _ _ _ => BKp.putObj W o' hl) (fun k vs W h => by rw [show vs = _ from h]; rfl)
      (fun k _ W => KInv all w4.heap.size ob w3 k W)
      (fun cd k W => False)
      (fun k => Turn.ownFrom fun s W W' h ht => h.turn (by have := HOB.out; omega) ht) (fun cd => Turn.ownFrom fun s W W' h ht => h)
      (fun k s A B h hst => h.step hst) (fun cd k A B h hst => h)
      (fun h => False.elim h) ?h0 ?hround ?hdone (fun D c k W _ h => False.elim h)
    case h0 =>
      intro W hW
      have e := HOB.out
      exact ⟨(e ▸ hb34).trans (hW.mono (by omega)), hW.size, _, ho4.step hW, OwnK.nil _ _⟩
    case hround =>
      intro l k s vs W hk hi hsW harg
      obtain rfl : vs = _ := harg
      gi_wp2_with fail
      refine ⟨(KeepsOthers.refl _).from _, ⟨Nat.le_refl _, fun _ _ _ => rfl⟩, fun W2 ht2 => ?_⟩
      replace hi := hi.turn (by have := HOB.out; omega) ht2
      clear ht2 hsW
      have hbel := hi.bel
      have hpart : BsB W2 B (.slice (subA A3 (32 * k + 32) (32 * k)) 32 32) ((all.drop (32 * k)).take 32) := (hv3.keep (hbel.mono (by omega))).part (32 * k) 32 (by omega)
      have hKl : ((all.drop (32 * k)).take 32).length = 32 := by have := HALL.out; simp; omega
      have hcut : cutK all (k + 1) = cutK all k ++ [(all.drop (32 * k)).take 32] := rfl
      have hck := cutK_length all k
      have hsz := hi.sz
      obtain ⟨K, hK⟩ : ∃ K, K = (all.drop (32 * k)).take 32 := ⟨_, rfl⟩
      rw [← hK] at hpart hKl hcut
      obtain ⟨Ak, hAk⟩ : ∃ Ak, Ak = subA A3 (32 * k + 32) (32 * k) := ⟨_, rfl⟩
      rw [← hAk] at hpart ⊢
      clear hK hAk
      have htk := toKey_bs (hpart.bs (by omega))
      have e1 : keyOf K = K := by unfold keyOf; rw [if_pos hKl]
      have e2 : keyErr K = 0 := by unfold keyErr; rw [hKl]; rfl
      unfold KeyRes at htk
      rw [e1, e2] at htk
      have HTK := Lib.hid htk
      have HCUT := Lib.hid hcut
      have HCK := Lib.hid hck
      clear htk e1 e2 hcut hck
      gi_wp2_with fail
      refine ⟨trivial, calls_wideIn (.inr ⟨l, rfl⟩) (HTK.out.mono ?_)⟩
      rintro e w5 ⟨rfl, hb5⟩
      have hi5 := hi.step hb5
      obtain ⟨vo, ho5, hown5⟩ := hi5.out
      have RZ : RowIs (w5.alloc (.cells (u8s (zeros 32)) 72)) w5.heap.size (u8s (zeros 32)) := RowIs.new _ _ _
      have hz5 := zeros_length 32
      obtain ⟨Ao, co', rfl⟩ := hown5.slice
      rw [HCK.out] at ho5 hown5
      have co := ho5.cell0
      have fo := ho5.fz 0
      have lo := ho5.lt
      have hq5 : Below w5.heap.size w5 ((w5.alloc (.cells (u8s K) 72)).alloc (.cells (u8s K) 72)) := (by repeat (first | with_reducible exact Below.refl _ _ | with_reducible assumption | refine Below.drew ?_ | refine below_drewN ?_ | refine Below.alloc ?_ (by first | omega | (simp; done) | (simp; omega)) _ | refine below_setRow ?_ (by omega) _ | refine Below.setCell ?_ (by first | omega | (simp; done) | (simp; omega)) _))
      have R7 : RowIs ((w5.alloc (.cells (u8s K) 72)).alloc (.cells (u8s K) 72)) (w5.heap.size + 1) (u8s K) := RowIs.new' (by simp)
      have own7 := hown5.step hq5
      have ho7 := ho5.step hq5
      have hz7 := hq5.size
      have hs5 := hi5.sz
      gi_wp2_with (gi_at_builtin; refine wpListIn_appendK rfl (.tmp 32) (.tmp 34) rfl w4.heap.size (w5.heap.size + 1) rfl own7 rfl R7 hKl (by rw [HCK.out]) (by omega) (by omega) ?_; intro A8 c8 w8 own8 bel8 ko8; have ho8 := ho7.below bel8 (by omega); have fo8 := ho8.fz 0; have co8 := ho8.cell0)
      have lb5 := hb5.size
      have lb8 := bel8.size
      have ls4 : ob < w4.heap.size := by omega
      have hh9 : ∀ r, r ≠ ob → (w8.setCell ⟨ob, 0, none⟩ (.slice A8 (k + 1) c8)).heap[r]? = w8.heap[r]? := fun r hr => Below.heap_setCell _ _ _ _ hr
      have hz9 : (w8.setCell ⟨ob, 0, none⟩ (.slice A8 (k + 1) c8)).heap.size = w8.heap.size := by simp [World.setCell]
      refine ⟨((keepsOthers_below hb5).trans ((keepsOthers_below hq5).trans (ko8.trans (KeepsOthers.setCell _ _ _)))).from _, ⟨by omega, fun r hr hne => ?_⟩, ⟨?_, by omega, _, by simpa using ho8.put 0 (.slice A8 (k + 1) c8), ?_⟩⟩
      · rw [hh9 r hne, bel8.block r hr, hq5.block r (by omega), hb5.block r (by omega)]
      · have e := HOB.out
        exact ((hi5.bel.trans (hq5.mono (by omega))).trans (bel8.mono (by omega))).setCell (by simp; omega) _
      · rw [HCUT.out]
        exact own8.keep fun r hr _ => hh9 r (by omega)
    case hdone =>
      intro D k s W hD hk hi hDd
      subst hk
      obtain ⟨v, ho, hown⟩ := hi.out
      have hc0 := ho.cell0
      have hcl := cutK_length all k
      have hka : ∀ x ∈ cutK all k, x.length = 32 := cutK_all all k (by rw [HALL.out]; omega)
      go_wp2_with fail
      refine ⟨by simp, .inl ⟨_, _, rfl, run_takeDeferred hDd, ?_⟩⟩
      have htu : Turn w4.heap.size W (W.putObj D (.deferred none)) := ⟨some D, grownBy_putObj' _ _ _, fun r e => by cases e; exact ⟨hD, _, hDd, rfl⟩⟩
      have hi2 := hi.turn (by have := HOB.out; omega) htu
      obtain ⟨v9, ho9, hown9⟩ := hi2.out
      have hv9 : v9 = v := by
        have e1 := ho9.cell0
        have e2 := (ho.ck htu.ck).cell0
        rw [e1] at e2
        exact Option.some.inj e2
      subst hv9
      exact ⟨_, results_tmp rfl _ _ _, v9, rfl, hown9.ks hka, (own_fresh hown9).less (Nat.le_trans (hu2.trans hu3).size (by have := HOB.out; omega)), hi3.upd (Upd.of hi2.bel) (by have := HOB.out; omega) (by omega), (hu2.trans hu3).then hi2.bel⟩
end
section
open Go.RowKit
attribute [local go_sem ↓] xbslK
attribute [local go_sem] bslK1
def RKsInO (B g : Nat) (ks : BLs) (i' : InP) (w : World) (e : Ending) (w' : World) : Prop := ∃ v, e = .returned v ∧ KsL w' v ks ∧ Fresh w.heap.size v ∧ RInIs w' B g i' ∧ Upd g w w'
set_option maxRecDepth 100000 in
set_option maxHeartbeats 3200000 in
theorem rkeys_own (B g : Nat) (i : InP) (most : Int) (w : World) (h : RInIs w B g i) :
    Calls Try.prog 41 #[.pointer (some ⟨g, 0, none⟩), .int .i64 most] w (RKsInO B g (ikeysP i most).1 (ikeysP i most).2 w) := by
  have HN := Lib.hid (rnum_any B g i 2)
  have hm := inum2_lt i
  have hnn : n64 (inumP i 2).1 = ((inumP i 2).1.toNat : Int) := n64_def _
  unfold ikeysP ilimP
  obtain ⟨m, hmm⟩ : ∃ m, m = (inumP i 2).1.toNat := ⟨_, rfl⟩
  unfold RNumIn at HN
  rw [hnn] at HN
  simp only [← hmm] at hm HN ⊢
  obtain ⟨j, hj⟩ : ∃ j, j = (inumP i 2).2 := ⟨_, rfl⟩
  simp only [← hj] at HN ⊢
  clear hmm hj hnn
  have i1 : (m : Int) ≤ 9223372036854775807 := by omega
  have hlen : ∀ j2 : InP, ∃ N, (takeP j2 (32 * m)).1.length = 32 * N ∧ N ≤ m := fun j2 => by
    unfold takeP
    split
    · split
      · exact ⟨m, by simp; omega, Nat.le_refl _⟩
      · exact ⟨0, rfl, Nat.zero_le _⟩
    · exact ⟨0, rfl, Nat.zero_le _⟩
  by_cases hlim : min most 100 < (m : Int)
  · rw [if_pos hlim]
    obtain ⟨N, hN, hNm⟩ := hlen (failP j 2)
    obtain ⟨all, hall⟩ : ∃ all, all = (takeP (failP j 2) (32 * m)).1 := ⟨_, rfl⟩
    obtain ⟨j3, hj3⟩ : ∃ j3, j3 = (takeP (failP j 2) (32 * m)).2 := ⟨_, rfl⟩
    rw [← hall] at hN
    rw [← hall, ← hj3]
    rw [show all.length / 32 = N by omega]
    have HALL := Lib.hid hN
    have HA := Lib.hid hall; have HJ3 := Lib.hid hj3
    clear hN hlen hall hj3
    by_cases hl1 : most < (m : Int)
    · clear hlim
      go_enter Try.func41, Try.ntmps41
      go_wp2_with fail
      refine (HN.out _ h).mono ?_
      rintro e w1 ⟨rfl, hi1, hu1⟩
      go_wp2_with fail
      refine (rfail_any B g j 2 (by decide) _ hi1).mono ?_
      rintro e w2 ⟨rfl, hi2, hu2⟩
      replace hu2 := hu1.trans hu2
      have hl2 := hi2.lt
      have hBg := hi2.1
      go_wp2_with fail
      refine (rtake_any B g _ (32 * m) (by omega) _ hi2).mono ?_
      rw [← HA.out, ← HJ3.out]
      rintro e w3 ⟨v3, rfl, hv3, hi3, hu3⟩
      have hl3 := hi3.lt
      obtain ⟨A3, c3, rfl, hc3, -⟩ := id hv3
      rw [HALL.out] at hc3 hv3 ⊢
      go_wp2_with fail
      go_loopw [7, 8] (fun v a wr => ∃ k : Nat, k ≤ N ∧ a = .int .i64 ((32 * k : Nat) : Int) ∧ OwnK wr w3.heap.size v (cutK all k) ∧ Below w3.heap.size w3 wr) (fun _ a _ => 32 * N - (intOf a).toNat)
      case atStart => exact ⟨0, Nat.zero_le _, rfl, OwnK.nil _ _, Below.refl _ _⟩
      case round =>
        obtain ⟨k, hk, rfl, own, hb⟩ := hrel
        obtain ⟨x, hx⟩ : ∃ x, x = 32 * k := ⟨_, rfl⟩
        rw [← hx]
        have HX := Lib.hid hx
        have hck := cutK_length all k
        by_cases hlt : k < N
        · have i4 : (x : Int) + 32 ≤ 32 * (N : Int) := by omega
          have i5 : (x : Int) + 32 ≤ 9223372036854775807 := by omega
          have hmid : ∀ w, (Instr.sliceAt 25 (.slice A3 (32 * N) c3) (some (.int .i64 x)) (some (.int .i64 ((x : Int) + 32))) none).run Try.prog w = .ok (.slice (subA A3 c3 x) 32 (c3 - x)) w := fun w => by
            have := run_mid Try.underlying25 (by kernel_rfl) A3 (32 * N) c3 x (x + 32) (by omega) (by omega) w
            rw [show ((x + 32 : Nat) : Int) = (x : Int) + 32 by omega, show x + 32 - x = 32 by omega] at this
            exact this
          have hpart : BsB wr B (.slice (subA A3 c3 x) 32 (c3 - x)) ((all.drop x).take 32) := (hv3.midB x 32 (by rw [HALL.out]; omega)).keep (hb.mono (by omega))
          have hKl : ((all.drop x).take 32).length = 32 := by have := HALL.out; simp; omega
          have hcut : cutK all (k + 1) = cutK all k ++ [(all.drop x).take 32] := by rw [hx]; rfl
          obtain ⟨K, hK⟩ : ∃ K, K = (all.drop x).take 32 := ⟨_, rfl⟩
          rw [← hK] at hpart hKl hcut
          have hzr := hb.size
          have htk := refToKey_bs (hpart.bs (by omega))
          have e1 : keyOf K = K := by unfold keyOf; rw [if_pos hKl]
          have e2 : keyErr K = 0 := by unfold keyErr; rw [hKl]; rfl
          unfold KeyRes at htk
          rw [e1, e2] at htk
          have HTK := Lib.hid htk
          have HCUT := Lib.hid hcut
          have HCK := Lib.hid hck
          obtain ⟨Ao, co, rfl⟩ := own.slice
          rw [hck] at own ⊢
          clear htk e1 e2 hcut hck hK hx
          go_wp2_with fail
          refine HTK.out.mono ?_
          rintro e w5 ⟨rfl, hb5⟩
          have hz5 := zeros_length 32
          have hq5 : Below w5.heap.size w5 ((w5.alloc (.cells (u8s K) 72)).alloc (.cells (u8s K) 72)) := (by repeat (first | with_reducible exact Below.refl _ _ | with_reducible assumption | refine Below.drew ?_ | refine below_drewN ?_ | refine Below.alloc ?_ (by first | omega | (simp; done) | (simp; omega)) _ | refine below_setRow ?_ (by omega) _ | refine Below.setCell ?_ (by first | omega | (simp; done) | (simp; omega)) _))
          have R7 : RowIs ((w5.alloc (.cells (u8s K) 72)).alloc (.cells (u8s K) 72)) (w5.heap.size + 1) (u8s K) := RowIs.new' (by simp)
          have own7 := (own.step hb5).step hq5
          have hz7 := hq5.size
          have hzz := hb5.size
          clear hmid
          go_wp2_with (at_builtin; refine wpList_appendK rfl (.tmp 43) (.tmp 45) rfl w3.heap.size (w5.heap.size + 1) rfl own7 rfl R7 hKl (by rw [HCK.out]) (by omega) (by omega) ?_; intro A8 c8 w8 own8 bel8)
          rw [← HCUT.out] at own8
          exact ⟨⟨k + 1, by omega, by have := HX.out; go_num, own8, ((hb.trans (hb5.mono (by omega))).trans (hq5.mono (by omega))).trans bel8⟩, by have := HX.out; simp [intOf]; omega⟩
        · have e : k = N := by omega
          have i4 : ¬ (x : Int) + 32 ≤ 32 * (N : Int) := by omega
          have i5 : (x : Int) + 32 ≤ 9223372036854775807 := by have := HX.out; omega
          have hka : ∀ y ∈ cutK all k, y.length = 32 := cutK_all all k (by have := HALL.out; have := HX.out; omega)
          subst e
          clear hx hck
          go_wp2_with fail
          go_ret
          exact ⟨_, rfl, own.ks hka, (own_fresh own).less (hu2.trans hu3).size, hi3.upd (Upd.of (g := w3.heap.size) hb) (by omega) (by omega), (hu2.trans hu3).then hb⟩
    · have hl0 : (100 : Int) < m := by omega
      clear hlim
      go_enter Try.func41, Try.ntmps41
      go_wp2_with fail
      refine (HN.out _ h).mono ?_
      rintro e w1 ⟨rfl, hi1, hu1⟩
      go_wp2_with fail
      refine (rfail_any B g j 2 (by decide) _ hi1).mono ?_
      rintro e w2 ⟨rfl, hi2, hu2⟩
      replace hu2 := hu1.trans hu2
      have hl2 := hi2.lt
      have hBg := hi2.1
      go_wp2_with fail
      refine (rtake_any B g _ (32 * m) (by omega) _ hi2).mono ?_
      rw [← HA.out, ← HJ3.out]
      rintro e w3 ⟨v3, rfl, hv3, hi3, hu3⟩
      have hl3 := hi3.lt
      obtain ⟨A3, c3, rfl, hc3, -⟩ := id hv3
      rw [HALL.out] at hc3 hv3 ⊢
      go_wp2_with fail
      go_loopw [7, 8] (fun v a wr => ∃ k : Nat, k ≤ N ∧ a = .int .i64 ((32 * k : Nat) : Int) ∧ OwnK wr w3.heap.size v (cutK all k) ∧ Below w3.heap.size w3 wr) (fun _ a _ => 32 * N - (intOf a).toNat)
      case atStart => exact ⟨0, Nat.zero_le _, rfl, OwnK.nil _ _, Below.refl _ _⟩
      case round =>
        obtain ⟨k, hk, rfl, own, hb⟩ := hrel
        obtain ⟨x, hx⟩ : ∃ x, x = 32 * k := ⟨_, rfl⟩
        rw [← hx]
        have HX := Lib.hid hx
        have hck := cutK_length all k
        by_cases hlt : k < N
        · have i4 : (x : Int) + 32 ≤ 32 * (N : Int) := by omega
          have i5 : (x : Int) + 32 ≤ 9223372036854775807 := by omega
          have hmid : ∀ w, (Instr.sliceAt 25 (.slice A3 (32 * N) c3) (some (.int .i64 x)) (some (.int .i64 ((x : Int) + 32))) none).run Try.prog w = .ok (.slice (subA A3 c3 x) 32 (c3 - x)) w := fun w => by
            have := run_mid Try.underlying25 (by kernel_rfl) A3 (32 * N) c3 x (x + 32) (by omega) (by omega) w
            rw [show ((x + 32 : Nat) : Int) = (x : Int) + 32 by omega, show x + 32 - x = 32 by omega] at this
            exact this
          have hpart : BsB wr B (.slice (subA A3 c3 x) 32 (c3 - x)) ((all.drop x).take 32) := (hv3.midB x 32 (by rw [HALL.out]; omega)).keep (hb.mono (by omega))
          have hKl : ((all.drop x).take 32).length = 32 := by have := HALL.out; simp; omega
          have hcut : cutK all (k + 1) = cutK all k ++ [(all.drop x).take 32] := by rw [hx]; rfl
          obtain ⟨K, hK⟩ : ∃ K, K = (all.drop x).take 32 := ⟨_, rfl⟩
          rw [← hK] at hpart hKl hcut
          have hzr := hb.size
          have htk := refToKey_bs (hpart.bs (by omega))
          have e1 : keyOf K = K := by unfold keyOf; rw [if_pos hKl]
          have e2 : keyErr K = 0 := by unfold keyErr; rw [hKl]; rfl
          unfold KeyRes at htk
          rw [e1, e2] at htk
          have HTK := Lib.hid htk
          have HCUT := Lib.hid hcut
          have HCK := Lib.hid hck
          obtain ⟨Ao, co, rfl⟩ := own.slice
          rw [hck] at own ⊢
          clear htk e1 e2 hcut hck hK hx
          go_wp2_with fail
          refine HTK.out.mono ?_
          rintro e w5 ⟨rfl, hb5⟩
          have hz5 := zeros_length 32
          have hq5 : Below w5.heap.size w5 ((w5.alloc (.cells (u8s K) 72)).alloc (.cells (u8s K) 72)) := (by repeat (first | with_reducible exact Below.refl _ _ | with_reducible assumption | refine Below.drew ?_ | refine below_drewN ?_ | refine Below.alloc ?_ (by first | omega | (simp; done) | (simp; omega)) _ | refine below_setRow ?_ (by omega) _ | refine Below.setCell ?_ (by first | omega | (simp; done) | (simp; omega)) _))
          have R7 : RowIs ((w5.alloc (.cells (u8s K) 72)).alloc (.cells (u8s K) 72)) (w5.heap.size + 1) (u8s K) := RowIs.new' (by simp)
          have own7 := (own.step hb5).step hq5
          have hz7 := hq5.size
          have hzz := hb5.size
          clear hmid
          go_wp2_with (at_builtin; refine wpList_appendK rfl (.tmp 43) (.tmp 45) rfl w3.heap.size (w5.heap.size + 1) rfl own7 rfl R7 hKl (by rw [HCK.out]) (by omega) (by omega) ?_; intro A8 c8 w8 own8 bel8)
          rw [← HCUT.out] at own8
          exact ⟨⟨k + 1, by omega, by have := HX.out; go_num, own8, ((hb.trans (hb5.mono (by omega))).trans (hq5.mono (by omega))).trans bel8⟩, by have := HX.out; simp [intOf]; omega⟩
        · have e : k = N := by omega
          have i4 : ¬ (x : Int) + 32 ≤ 32 * (N : Int) := by omega
          have i5 : (x : Int) + 32 ≤ 9223372036854775807 := by have := HX.out; omega
          have hka : ∀ y ∈ cutK all k, y.length = 32 := cutK_all all k (by have := HALL.out; have := HX.out; omega)
          subst e
          clear hx hck
          go_wp2_with fail
          go_ret
          exact ⟨_, rfl, own.ks hka, (own_fresh own).less (hu2.trans hu3).size, hi3.upd (Upd.of (g := w3.heap.size) hb) (by omega) (by omega), (hu2.trans hu3).then hb⟩
  · rw [if_neg hlim]
    obtain ⟨N, hN, hNm⟩ := hlen j
    obtain ⟨all, hall⟩ : ∃ all, all = (takeP j (32 * m)).1 := ⟨_, rfl⟩
    obtain ⟨j3, hj3⟩ : ∃ j3, j3 = (takeP j (32 * m)).2 := ⟨_, rfl⟩
    rw [← hall] at hN
    rw [← hall, ← hj3]
    rw [show all.length / 32 = N by omega]
    have HALL := Lib.hid hN
    have HA := Lib.hid hall; have HJ3 := Lib.hid hj3
    clear hN hlen hall hj3
    have hl1 : ¬ most < (m : Int) := by omega
    have hl0 : ¬ (100 : Int) < m := by omega
    clear hlim
    go_enter Try.func41, Try.ntmps41
    go_wp2_with fail
    refine (HN.out _ h).mono ?_
    rintro e w1 ⟨rfl, hi1, hu1⟩
    go_wp2_with fail
    have hi2 := hi1
    have hu2 := hu1
    have hl2 := hi2.lt
    have hBg := hi2.1
    refine (rtake_any B g _ (32 * m) (by omega) _ hi2).mono ?_
    rw [← HA.out, ← HJ3.out]
    rintro e w3 ⟨v3, rfl, hv3, hi3, hu3⟩
    have hl3 := hi3.lt
    obtain ⟨A3, c3, rfl, hc3, -⟩ := id hv3
    rw [HALL.out] at hc3 hv3 ⊢
    go_wp2_with fail
    go_loopw [7, 8] (fun v a wr => ∃ k : Nat, k ≤ N ∧ a = .int .i64 ((32 * k : Nat) : Int) ∧ OwnK wr w3.heap.size v (cutK all k) ∧ Below w3.heap.size w3 wr) (fun _ a _ => 32 * N - (intOf a).toNat)
    case atStart => exact ⟨0, Nat.zero_le _, rfl, OwnK.nil _ _, Below.refl _ _⟩
    case round =>
      obtain ⟨k, hk, rfl, own, hb⟩ := hrel
      obtain ⟨x, hx⟩ : ∃ x, x = 32 * k := ⟨_, rfl⟩
      rw [← hx]
      have HX := Lib.hid hx
      have hck := cutK_length all k
      by_cases hlt : k < N
      · have i4 : (x : Int) + 32 ≤ 32 * (N : Int) := by omega
        have i5 : (x : Int) + 32 ≤ 9223372036854775807 := by omega
        have hmid : ∀ w, (Instr.sliceAt 25 (.slice A3 (32 * N) c3) (some (.int .i64 x)) (some (.int .i64 ((x : Int) + 32))) none).run Try.prog w = .ok (.slice (subA A3 c3 x) 32 (c3 - x)) w := fun w => by
          have := run_mid Try.underlying25 (by kernel_rfl) A3 (32 * N) c3 x (x + 32) (by omega) (by omega) w
          rw [show ((x + 32 : Nat) : Int) = (x : Int) + 32 by omega, show x + 32 - x = 32 by omega] at this
          exact this
        have hpart : BsB wr B (.slice (subA A3 c3 x) 32 (c3 - x)) ((all.drop x).take 32) := (hv3.midB x 32 (by rw [HALL.out]; omega)).keep (hb.mono (by omega))
        have hKl : ((all.drop x).take 32).length = 32 := by have := HALL.out; simp; omega
        have hcut : cutK all (k + 1) = cutK all k ++ [(all.drop x).take 32] := by rw [hx]; rfl
        obtain ⟨K, hK⟩ : ∃ K, K = (all.drop x).take 32 := ⟨_, rfl⟩
        rw [← hK] at hpart hKl hcut
        have hzr := hb.size
        have htk := refToKey_bs (hpart.bs (by omega))
        have e1 : keyOf K = K := by unfold keyOf; rw [if_pos hKl]
        have e2 : keyErr K = 0 := by unfold keyErr; rw [hKl]; rfl
        unfold KeyRes at htk
        rw [e1, e2] at htk
        have HTK := Lib.hid htk
        have HCUT := Lib.hid hcut
        have HCK := Lib.hid hck
        obtain ⟨Ao, co, rfl⟩ := own.slice
        rw [hck] at own ⊢
        clear htk e1 e2 hcut hck hK hx
        go_wp2_with fail
        refine HTK.out.mono ?_
        rintro e w5 ⟨rfl, hb5⟩
        have hz5 := zeros_length 32
        have hq5 : Below w5.heap.size w5 ((w5.alloc (.cells (u8s K) 72)).alloc (.cells (u8s K) 72)) := (by repeat (first | with_reducible exact Below.refl _ _ | with_reducible assumption | refine Below.drew ?_ | refine below_drewN ?_ | refine Below.alloc ?_ (by first | omega | (simp; done) | (simp; omega)) _ | refine below_setRow ?_ (by omega) _ | refine Below.setCell ?_ (by first | omega | (simp; done) | (simp; omega)) _))
        have R7 : RowIs ((w5.alloc (.cells (u8s K) 72)).alloc (.cells (u8s K) 72)) (w5.heap.size + 1) (u8s K) := RowIs.new' (by simp)
        have own7 := (own.step hb5).step hq5
        have hz7 := hq5.size
        have hzz := hb5.size
        clear hmid
        go_wp2_with (at_builtin; refine wpList_appendK rfl (.tmp 43) (.tmp 45) rfl w3.heap.size (w5.heap.size + 1) rfl own7 rfl R7 hKl (by rw [HCK.out]) (by omega) (by omega) ?_; intro A8 c8 w8 own8 bel8)
        rw [← HCUT.out] at own8
        exact ⟨⟨k + 1, by omega, by have := HX.out; go_num, own8, ((hb.trans (hb5.mono (by omega))).trans (hq5.mono (by omega))).trans bel8⟩, by have := HX.out; simp [intOf]; omega⟩
      · have e : k = N := by omega
        have i4 : ¬ (x : Int) + 32 ≤ 32 * (N : Int) := by omega
        have i5 : (x : Int) + 32 ≤ 9223372036854775807 := by have := HX.out; omega
        have hka : ∀ y ∈ cutK all k, y.length = 32 := cutK_all all k (by have := HALL.out; have := HX.out; omega)
        subst e
        clear hx hck
        go_wp2_with fail
        go_ret
        exact ⟨_, rfl, own.ks hka, (own_fresh own).less (hu2.trans hu3).size, hi3.upd (Upd.of (g := w3.heap.size) hb) (by omega) (by omega), (hu2.trans hu3).then hb⟩
end
end
section
section
open Go.RowKit
theorem spl_mid {l P M S r : List Value} {o : Nat} (h : l = P ++ (M ++ S)) (hP : P.length = o) (hM : M.length = r.length) : spl l o r = P ++ (r ++ S) := by
  subst h
  rw [spl, List.take_append_of_le_length (by omega), List.take_of_length_le (by omega), List.drop_append, List.drop_of_length_le (by omega), List.nil_append, hP, List.drop_append, List.drop_of_length_le (by omega), List.nil_append, List.append_assoc]
  congr 2
  rw [show o + r.length - o - M.length = 0 by omega, List.drop_zero]
theorem set_mid {l P S : List Value} {u v : Value} {o : Nat} (h : l = P ++ (u :: S)) (hP : P.length = o) : l.toArray.setIfInBounds o v = (P ++ (v :: S)).toArray := by
  subst h; subst hP
  simp
theorem frC_set0 (f : FrP) (vb vs : Value) (n : Nat) : (frC f vb vs).setIfInBounds 0 (.int .u32 n) = frC { f with idx := n } vb vs := by
  rw [frC_def, frC_def]; exact set_mid (P := []) rfl rfl
theorem frC_set1 (f : FrP) (vb vs : Value) (n : Nat) : (frC f vb vs).setIfInBounds 1 (.int .u32 n) = frC { f with ack := n } vb vs := by
  rw [frC_def, frC_def]; exact set_mid (P := [.int .u32 f.idx]) rfl rfl
theorem frL_split (f : FrP) (vb vs : Value) : frL f vb vs = (.int .u32 f.idx :: .int .u32 f.ack :: (u8v f.eph ++ (u8v f.epo ++ u8v f.nxt))) ++ [vb, vs] := by
  simp [frL]
theorem frC_set98 {f : FrP} (hw : f.WF) (vb vs v : Value) : (frC f vb vs).setIfInBounds 98 v = frC f v vs := by
  rw [frC_def, frC_def, frL_split f v vs]; exact set_mid (frL_split f vb vs) (by simp [hw.eph, hw.epo, hw.nxt, u8v_length])
theorem frC_set99 {f : FrP} (hw : f.WF) (vb vs v : Value) : (frC f vb vs).setIfInBounds 99 v = frC f vb v := by
  rw [frC_def, frC_def, frL_split f vb v]
  have := set_mid (v := v) (o := 99) (show frL f vb vs = ((.int .u32 f.idx :: .int .u32 f.ack :: (u8v f.eph ++ (u8v f.epo ++ u8v f.nxt))) ++ [vb]) ++ (vs :: []) by simp [frL]) (by simp [hw.eph, hw.epo, hw.nxt, u8v_length])
  rw [this]; simp
theorem frC_box (f : FrP) (b : List UInt8) (s : BLs) (vb vs : Value) : frC { f with box := b, sign := s } vb vs = frC f vb vs := by rw [frC_def, frC_def]; rfl
theorem keySize : (Try.prog.info? 72).map (·.size) = some 32 := by kernel_rfl
theorem frPut2 {w : World} {g : Nat} {f : FrP} {vb vs : Value} (h : RowIs w g (frC f vb vs)) (hw : f.WF) {K : List UInt8} (hK : K.length = 32) :
    (storeAgg 72 (.pointer (some ⟨g, 2, none⟩)) (.agg (u8s K))).run Try.prog w = .ok .skip (w.setRow g (frC { f with eph := K } vb vs)) := by
  rw [frC_def] at h
  rw [u8s_toArray, frC_def]
  rw [run_storeAgg_mid keySize h (by rw [u8v_length, hK]) (by rw [frL_len hw]; omega) (u8v_one K)]
  congr 3
  exact spl_mid (P := [.int .u32 f.idx, .int .u32 f.ack]) (M := u8v f.eph) (S := u8v f.epo ++ (u8v f.nxt ++ [vb, vs])) rfl rfl (by rw [u8v_length, u8v_length, hK, hw.eph])
theorem frPut34 {w : World} {g : Nat} {f : FrP} {vb vs : Value} (h : RowIs w g (frC f vb vs)) (hw : f.WF) {K : List UInt8} (hK : K.length = 32) :
    (storeAgg 72 (.pointer (some ⟨g, 34, none⟩)) (.agg (u8s K))).run Try.prog w = .ok .skip (w.setRow g (frC { f with epo := K } vb vs)) := by
  rw [frC_def] at h
  rw [u8s_toArray, frC_def]
  rw [run_storeAgg_mid keySize h (by rw [u8v_length, hK]) (by rw [frL_len hw]; omega) (u8v_one K)]
  congr 3
  refine (spl_mid (P := .int .u32 f.idx :: .int .u32 f.ack :: u8v f.eph) (M := u8v f.epo) (S := u8v f.nxt ++ [vb, vs]) (by simp [frL]) (by simp [u8v_length, hw.eph]) (by rw [u8v_length, u8v_length, hK, hw.epo])).trans ?_
  simp [frL]
theorem frPut66 {w : World} {g : Nat} {f : FrP} {vb vs : Value} (h : RowIs w g (frC f vb vs)) (hw : f.WF) {K : List UInt8} (hK : K.length = 32) :
    (storeAgg 72 (.pointer (some ⟨g, 66, none⟩)) (.agg (u8s K))).run Try.prog w = .ok .skip (w.setRow g (frC { f with nxt := K } vb vs)) := by
  rw [frC_def] at h
  rw [u8s_toArray, frC_def]
  rw [run_storeAgg_mid keySize h (by rw [u8v_length, hK]) (by rw [frL_len hw]; omega) (u8v_one K)]
  congr 3
  refine (spl_mid (P := .int .u32 f.idx :: .int .u32 f.ack :: (u8v f.eph ++ u8v f.epo)) (M := u8v f.nxt) (S := [vb, vs]) (by simp [frL]) (by simp [u8v_length, hw.eph, hw.epo]) (by rw [u8v_length, u8v_length, hK, hw.nxt])).trans ?_
  simp [frL]
theorem frStore (w : World) (g : Nat) (f : FrP) (vb vs : Value) (hb : vb.oneCell' = true) (hs : vs.oneCell' = true) (hw : f.WF) (hr : (rowOf w g).size = 100) :
    (storeAgg 80 (.pointer (some ⟨g, 0, none⟩)) (.agg (frC f vb vs))).run Try.prog w = .ok .skip (w.setRow g (frC f vb vs)) :=
  run_storeAgg 100 80 (by omega) (by kernel_rfl) w g (frC f vb vs) hr (frC_size hw _ _) (by
    rw [Array.all_eq_true_iff_forall_mem]
    intro v hv
    rw [frC_def, List.mem_toArray, frL] at hv
    simp only [List.mem_cons, List.mem_append, List.not_mem_nil, or_false] at hv
    rcases hv with rfl | rfl | hv | hv | hv | rfl | rfl
    · rfl
    · rfl
    · exact u8v_one _ v hv
    · exact u8v_one _ v hv
    · exact u8v_one _ v hv
    · exact hb
    · exact hs)
abbrev nilS : Value := .slice none 0 0
theorem fr_zero_wf : FrP.zero.WF := ⟨by decide, by decide, by simp [FrP.zero], by simp [FrP.zero], by simp [FrP.zero], fun k hk => by simp [FrP.zero] at hk⟩
theorem zcFr : Try.zeroCells80 = frC FrP.zero (.slice none 0 0) (.slice none 0 0) := Eq.trans (by kernel_rfl) frZ
theorem frBuilt (parts : List (Nat × Value)) : Try.prog.built 80 parts = Instr.fill (#[(0, 1), (1, 1), (2, 32), (34, 32), (66, 32), (98, 1), (99, 1)][·]?) (frL FrP.zero (.slice none 0 0) (.slice none 0 0)).toArray parts := by
  rw [frL]
  simp only [u8v_def, FrP.zero]
  kernel_rfl
theorem frBuild0 (w : World) : (buildK 80 #[]).run Try.prog w = .ok (.value (.agg (frC FrP.zero (.slice none 0 0) (.slice none 0 0)))) w := run_buildK (by
  rw [frBuilt, frC_def]
  unfold Instr.fill
  rfl) w
theorem spl0 (u : FrP) (A B : Value) (a : Nat) : spl (frL u A B) 0 [.int .u32 a] = frL { u with idx := a } A B := by
  have h : frL u A B = [] ++ ([.int .u32 u.idx] ++ (.int .u32 u.ack :: (u8v u.eph ++ (u8v u.epo ++ (u8v u.nxt ++ [A, B]))))) := by simp [frL]
  rw [spl_mid (o := 0) (r := [.int .u32 a]) h rfl rfl]; simp [frL]
theorem spl1 (u : FrP) (A B : Value) (a : Nat) : spl (frL u A B) 1 [.int .u32 a] = frL { u with ack := a } A B := by
  have h : frL u A B = [.int .u32 u.idx] ++ ([.int .u32 u.ack] ++ (u8v u.eph ++ (u8v u.epo ++ (u8v u.nxt ++ [A, B])))) := by simp [frL]
  rw [spl_mid (o := 1) (r := [.int .u32 a]) h rfl rfl]; simp [frL]
theorem spl98 {u : FrP} (hw : u.WF) (A B x : Value) : spl (frL u A B) 98 [x] = frL u x B := by
  have h : frL u A B = (.int .u32 u.idx :: .int .u32 u.ack :: (u8v u.eph ++ (u8v u.epo ++ u8v u.nxt))) ++ ([A] ++ [B]) := by simp [frL]
  rw [spl_mid (r := [x]) h (by simp [hw.eph, hw.epo, hw.nxt, u8v_length]) rfl]; simp [frL]
theorem spl99 {u : FrP} (hw : u.WF) (A B x : Value) : spl (frL u A B) 99 [x] = frL u A x := by
  have h : frL u A B = ((.int .u32 u.idx :: .int .u32 u.ack :: (u8v u.eph ++ (u8v u.epo ++ u8v u.nxt))) ++ [A]) ++ ([B] ++ []) := by simp [frL]
  rw [spl_mid (r := [x]) h (by simp [hw.eph, hw.epo, hw.nxt, u8v_length]) rfl]; simp [frL]
theorem frBuild2 (a b : Nat) (w : World) : (buildK 80 #[(0, .int .u32 a), (1, .int .u32 b)]).run Try.prog w = .ok (.value (.agg (frC ⟨a, b, z32, z32, z32, [], []⟩ (.slice none 0 0) (.slice none 0 0)))) w := run_buildK (by
  have hl := frL_len fr_zero_wf (.slice none 0 0) (.slice none 0 0)
  rw [frBuilt, frC_def]
  rw [fill_part (s := 1) (off := 0) rfl _ (.int .u32 a) [.int .u32 a] rfl rfl (by rw [hl]; omega), spl0]
  rw [fill_part (s := 1) (off := 1) rfl _ (.int .u32 b) [.int .u32 b] rfl rfl (by have := hl; simp [frL] at this ⊢), spl1]
  unfold Instr.fill
  rfl) w
theorem frBuild05 (a : Nat) (ha : a < 4294967296) (A : Option Addr) (n c : Nat) (w : World) : (buildK 80 #[(0, .int .u32 a), (5, .slice A n c)]).run Try.prog w = .ok (.value (.agg (frC ⟨a, 0, z32, z32, z32, [], []⟩ (.slice A n c) (.slice none 0 0)))) w := run_buildK (by
  have hl := frL_len fr_zero_wf (.slice none 0 0) (.slice none 0 0)
  have hw : FrP.WF { FrP.zero with idx := a } := ⟨ha, by simp [FrP.zero], by simp [FrP.zero], by simp [FrP.zero], by simp [FrP.zero], fun k hk => by simp [FrP.zero] at hk⟩
  rw [frBuilt, frC_def]
  rw [fill_part (s := 1) (off := 0) rfl _ (.int .u32 a) [.int .u32 a] rfl rfl (by rw [hl]; omega), spl0]
  rw [fill_part (s := 1) (off := 98) rfl _ (.slice A n c) [.slice A n c] rfl rfl (by rw [frL_len hw]; omega), spl98 hw]
  unfold Instr.fill
  rfl) w
theorem frBuild056 (a : Nat) (ha : a < 4294967296) (A A2 : Option Addr) (n c n2 c2 : Nat) (w : World) : (buildK 80 #[(0, .int .u32 a), (5, .slice A n c), (6, .slice A2 n2 c2)]).run Try.prog w = .ok (.value (.agg (frC ⟨a, 0, z32, z32, z32, [], []⟩ (.slice A n c) (.slice A2 n2 c2)))) w := run_buildK (by
  have hl := frL_len fr_zero_wf (.slice none 0 0) (.slice none 0 0)
  have hw : FrP.WF { FrP.zero with idx := a } := ⟨ha, by simp [FrP.zero], by simp [FrP.zero], by simp [FrP.zero], by simp [FrP.zero], fun k hk => by simp [FrP.zero] at hk⟩
  rw [frBuilt, frC_def]
  rw [fill_part (s := 1) (off := 0) rfl _ (.int .u32 a) [.int .u32 a] rfl rfl (by rw [hl]; omega), spl0]
  rw [fill_part (s := 1) (off := 98) rfl _ (.slice A n c) [.slice A n c] rfl rfl (by rw [frL_len hw]; omega), spl98 hw]
  rw [fill_part (s := 1) (off := 99) rfl _ (.slice A2 n2 c2) [.slice A2 n2 c2] rfl rfl (by rw [frL_len hw]; omega), spl99 hw]
  unfold Instr.fill
  rfl) w
def FrTo (p : FrP × Int) (w : World) (e : Ending) (w' : World) : Prop := ∃ v, e = .returned (.tuple #[v, .int .i64 p.2]) ∧ FrV w' p.1 v ∧ Below w.heap.size w w'
theorem frv_zero (w : World) : FrV w FrP.zero (.agg (frC FrP.zero (.slice none 0 0) (.slice none 0 0))) := ⟨_, _, rfl, fr_zero_wf, Bs.nil w, KsL.nil w⟩
end
end
section
section
open Go.RowKit
attribute [local go_sem] zcFr frBuild0
/-- three keys lie one behind the other -/
def KeysAt (g o : Nat) (a b c : List UInt8) (w : World) : Prop := w.rangeAt g o (u8v a) ∧ w.rangeAt g (o + 32) (u8v b) ∧ w.rangeAt g (o + 64) (u8v c)
theorem rangeAt_upd {w w' : World} {g o p : Nat} {l : List Value} (h : w.rangeAt g o l) (hu : Upd p w w') (hg : g < w.heap.size) (hp : g ≠ p) : w'.rangeAt g o l := fun j v hv => (hu.cell (p := ⟨g, o + j, none⟩) hg hp).trans (h j v hv)
theorem KeysAt.upd {w w' : World} {g o p : Nat} {a b c : List UInt8} (h : KeysAt g o a b c w) (hu : Upd p w w') (hg : g < w.heap.size) (hp : g ≠ p) : KeysAt g o a b c w' := ⟨rangeAt_upd h.1 hu hg hp, rangeAt_upd h.2.1 hu hg hp, rangeAt_upd h.2.2 hu hg hp⟩
theorem KsL.keysAt {w : World} {v : Value} {ks : BLs} (h : KsL w v ks) (hn : ks.length = 3) : ∃ g o c, v = .slice (some ⟨g, o, none⟩) 3 c ∧ g < w.heap.size ∧ KeysAt g o (keyAt ks 0) (keyAt ks 1) (keyAt ks 2) w := by
  obtain ⟨A, c, rfl, -, hel⟩ := h
  obtain ⟨g, o, rfl, hg, hit⟩ := hel (by omega)
  have hk : ∀ i, i < 3 → nthL ks i = keyAt ks i := fun i hi => by
    rw [nthL_def, keyAt, List.getD_eq_getElem?_getD, List.getElem?_eq_getElem (by omega)]; rfl
  have h0 := hit 0 (by omega); have h1 := hit 1 (by omega); have h2 := hit 2 (by omega)
  rw [hk 0 (by omega)] at h0; rw [hk 1 (by omega)] at h1; rw [hk 2 (by omega)] at h2
  rw [hn]
  exact ⟨g, o, c, rfl, hg, by simpa using h0, by simpa using h1, by simpa using h2⟩
theorem upd_setRow (w : World) (p : Nat) (cs : Array Value) : Upd p w (w.setRow p cs) := ⟨rfl, rfl, rfl, by simp [World.setRow], fun k _ hk => by
  simp only [World.setRow, Array.getElem?_modify]
  rw [if_neg (fun e => hk e.symm)]⟩
theorem ikeysP_len (i : InP) (m : Int) : (ikeysP i m).1.length ≤ 70000 := by
  unfold ikeysP
  rw [cutK_length]
  have h1 := takeP_len (ilimP i m 100).2 (32 * (ilimP i m 100).1)
  have h2 : (ilimP i m 100).1 ≤ 65535 := by
    unfold ilimP
    have := inum2_lt i
    split <;> simp <;> omega
  omega
set_option maxRecDepth 100000 in
set_option maxHeartbeats 6400000 in
theorem frdec_any (v : Value) (b : List UInt8) (w : World) (hv : Bs w v b) : Calls Try.prog 53 #[v] w (FrTo (decFP b) w) := by
  obtain ⟨A0, c0, rfl, -⟩ := id hv
  obtain ⟨t, ht⟩ : ∃ t, t = w.heap.size := ⟨_, rfl⟩
  have B : Below w.heap.size w (w.alloc (.cells (frC FrP.zero (.slice none 0 0) (.slice none 0 0)) 80)) := (by repeat (first | with_reducible exact Below.refl _ _ | with_reducible assumption | refine Below.drew ?_ | refine below_drewN ?_ | refine Below.alloc ?_ (by first | omega | (simp; done) | (simp; omega)) _ | refine below_setRow ?_ (by omega) _ | refine Below.setCell ?_ (by first | omega | (simp; done) | (simp; omega)) _))
  have R : RowIs (w.alloc (.cells (frC FrP.zero (.slice none 0 0) (.slice none 0 0)) 80)) t (frC FrP.zero (.slice none 0 0) (.slice none 0 0)) := RowIs.new' ht
  have Z := R.lt
  have HT := Lib.hid ht
  by_cases hlen : 8000 < b.length
  · have g0 : (8000 : Int) < (b.length : Int) := by omega
    have CK : Hid (decFP b = (.zero, 2)) := Lib.hid (if_pos hlen)
    have hst := frStore (w.alloc (.cells (frC FrP.zero (.slice none 0 0) (.slice none 0 0)) 80)) t FrP.zero (.slice none 0 0) (.slice none 0 0) rfl rfl fr_zero_wf (by rw [R.has]; exact frC_size fr_zero_wf _ _)
    rw [HT.out] at hst
    have hrow : rowOf (w.alloc (.cells (frC FrP.zero (.slice none 0 0) (.slice none 0 0)) 80)) w.heap.size = (frC FrP.zero (.slice none 0 0) (.slice none 0 0)) := HT.out ▸ R.has
    have HROW := Lib.hid hrow
    clear hlen hrow
    go_enter Try.func53, Try.ntmps53
    go_wp2_with fail
    have hrow := HROW.out
    refine bodyPost_rowTmp 2 3 80 w.heap.size 100 rfl rfl (by omega) (by kernel_rfl) (by kernel_rfl) (by rw [hrow]; exact frC_size fr_zero_wf _ _) rfl ?_
    exact ⟨.agg (frC FrP.zero (.slice none 0 0) (.slice none 0 0)), by rw [hrow, CK.out]; rfl, by rw [CK.out]; exact frv_zero _, B⟩
  · have g0 : ¬ (8000 : Int) < (b.length : Int) := by omega
    have S1 := read_any _ b _ (hv.step B)
    have H1 := Lib.hid S1
    clear S1 ht
    go_enter Try.func53, Try.ntmps53
    go_wp2_with fail
    refine H1.out.mono ?_
    rintro e w1 ⟨g, rfl, hi1, b1⟩
    have R1 := R.below b1 Z
    have htg : t < g := by have := hi1.1; omega
    have hB1 := B.trans (b1.mono B.size)
    have hgw : w.heap.size ≤ g := by have := hi1.1; have := B.size; omega
    obtain ⟨B0, hB0⟩ : ∃ B0, B0 = (w.alloc (.cells (frC FrP.zero (.slice none 0 0) (.slice none 0 0)) 80)).heap.size := ⟨_, rfl⟩
    rw [← hB0] at hi1
    have hBg : B0 ≤ g := hi1.1
    have hwB : w.heap.size ≤ B0 := by rw [hB0]; exact B.size
    have htB : t < B0 := by rw [hB0]; exact Z
    clear hB0
    have S2 := innum_any _ g ⟨b, 0⟩ 1 w1 hi1
    rw [show inumP ⟨b, 0⟩ 1 = rd1 b from rfl] at S2
    have H2 := Lib.hid S2
    clear S2
    go_wp2_with fail
    refine H2.out.mono ?_
    rintro e w2 ⟨rfl, hi2, u2⟩
    have S3 := innum_any _ g (rd1 b).2 4 w2 hi2
    rw [show inumP (rd1 b).2 4 = rd2 b from rfl] at S3
    have H3 := Lib.hid S3
    clear S3
    go_wp2_with fail
    refine H3.out.mono ?_
    rintro e w3 ⟨rfl, hi3, u3⟩
    have S4 := innum_any _ g (rd2 b).2 4 w3 hi3
    rw [show inumP (rd2 b).2 4 = rd3 b from rfl] at S4
    have H4 := Lib.hid S4
    clear S4
    obtain ⟨i4, hi4⟩ : ∃ i4 : Nat, i4 = (rd2 b).1.toNat % 4294967296 := ⟨_, rfl⟩
    obtain ⟨a4, ha4⟩ : ∃ a4 : Nat, a4 = (rd3 b).1.toNat % 4294967296 := ⟨_, rfl⟩
    have e1 : IntKind.u32.wrap (n64 (rd2 b).1) = (i4 : Int) := by rw [hi4, n64_def]; unfold IntKind.wrap; simp [IntKind.bits, IntKind.signed]
    have e2 : IntKind.u32.wrap (n64 (rd3 b).1) = (a4 : Int) := by rw [ha4, n64_def]; unfold IntKind.wrap; simp [IntKind.bits, IntKind.signed]
    have HI4 := Lib.hid hi4; have HA4 := Lib.hid ha4
    have i4l : i4 < 4294967296 := by omega
    have a4l : a4 < 4294967296 := by omega
    clear hi4 ha4
    go_wp2_with fail
    refine H4.out.mono ?_
    rintro e w4 ⟨rfl, hi4, u4⟩
    have U4 := (u2.trans u3).trans u4
    have R4 := R1.upd U4 (by omega)
    have B4 := U4.below hB1 hgw hB1.size
    obtain ⟨p, hp⟩ : ∃ p, p = w4.heap.size := ⟨_, rfl⟩
    have hgp : g < p := by rw [hp]; exact hi4.lt
    have q4 : Below w4.heap.size w4 (w4.alloc (.cells (frC ⟨i4, a4, z32, z32, z32, [], []⟩ (.slice none 0 0) (.slice none 0 0)) 80)) := (by repeat (first | with_reducible exact Below.refl _ _ | with_reducible assumption | refine Below.drew ?_ | refine below_drewN ?_ | refine Below.alloc ?_ (by first | omega | (simp; done) | (simp; omega)) _ | refine below_setRow ?_ (by omega) _ | refine Below.setCell ?_ (by first | omega | (simp; done) | (simp; omega)) _))
    have w1f : FrP.WF ⟨i4, a4, z32, z32, z32, [], []⟩ := ⟨i4l, a4l, by simp, by simp, by simp, fun k hk => by simp at hk⟩
    have P4 : RowIs (w4.alloc (.cells (frC ⟨i4, a4, z32, z32, z32, [], []⟩ (.slice none 0 0) (.slice none 0 0)) 80)) p (frC ⟨i4, a4, z32, z32, z32, [], []⟩ (.slice none 0 0) (.slice none 0 0)) := RowIs.new' hp
    have p4 := P4.lt
    have hbd := frBuild2 i4 a4 w4
    have hi5 := hi4.step q4
    have R5 := R4.step q4
    have B5 := B4.trans (q4.mono B4.size)
    have hz4 := frC_size fr_zero_wf (.slice none 0 0) (.slice none 0 0)
    have hz5 := frC_size w1f (.slice none 0 0) (.slice none 0 0)
    have hst4 := frStore (w4.alloc (.cells (frC FrP.zero (.slice none 0 0) (.slice none 0 0)) 80)) w4.heap.size ⟨i4, a4, z32, z32, z32, [], []⟩ (.slice none 0 0) (.slice none 0 0) rfl rfl w1f (by rw [(RowIs.new w4 (frC FrP.zero (.slice none 0 0) (.slice none 0 0)) 80).has]; exact hz4)
    have S5 := inkeys_own _ g (rd3 b).2 3 _ hi5
    rw [show ikeysP (rd3 b).2 3 = rd4 b from rfl] at S5
    have H5 := Lib.hid S5
    have HP := Lib.hid hp
    clear S5 hp
    go_wp2_with fail
    refine H5.out.mono ?_
    rintro e w5 ⟨vk, rfl, hk5, fk, hi5', u5⟩
    have P5 := P4.upd u5 (by omega)
    have R6 := R5.upd u5 (by omega)
    have B6 := u5.below B5 hgw B5.size
    have p5 := u5.size
    have S6 := inbytes_own _ g (rd4 b).2 264 w5 hi5'
    rw [show ibytesP (rd4 b).2 264 = rd5 b from rfl] at S6
    have H6 := Lib.hid S6
    clear S6
    go_wp2_with fail
    refine H6.out.mono ?_
    rintro e w6 ⟨vb, rfl, hb6, fb, hi6, u6⟩
    have p6 := u6.size
    have S7 := inkeys_own _ g (rd5 b).2 67 w6 hi6
    rw [show ikeysP (rd5 b).2 67 = rd6 b from rfl] at S7
    have H7 := Lib.hid S7
    clear S7
    go_wp2_with fail
    refine H7.out.mono ?_
    rintro e w7 ⟨vs, rfl, hs7, fs, hi7, u7⟩
    have U7 := u6.trans u7
    have P7 := P5.upd U7 (by omega)
    have R7 := R6.upd U7 (by omega)
    have B7 := U7.below B6 hgw B6.size
    have hk7 := hk5.updF U7 fk (by omega)
    have hb7 := hb6.updF u7 fb (by omega)
    have fk1 : Fresh (p + 1) vk := fk.less (by omega)
    have fb1 : Fresh (p + 1) vb := fb.less (by omega)
    have fs1 : Fresh (p + 1) vs := fs.less (by omega)
    obtain ⟨Ab, cb, rfl, -⟩ := id hb7
    obtain ⟨As, cs, rfl, -⟩ := id hs7
    obtain ⟨Ak, ck, rfl, -⟩ := id hk7
    obtain ⟨d0, d1, d5, d6⟩ := fr_cells P7 w1f
    have f5 := P7.fz 98
    have f6 := P7.fz 99
    have l7 := P7.lt
    have X7 := P7.put 98 (.slice Ab (rd5 b).1.length cb)
    rw [frC_set98 w1f] at X7
    have Y7 := X7.put 99 (.slice As (rd6 b).1.length cs)
    rw [frC_set99 w1f] at Y7
    have x5 := fr_cells X7 w1f
    have x6 := x5.2.2.2
    have x7 := X7.fz 99
    have u8 : Upd p w7 ((w7.setCell ⟨p, 98, none⟩ (.slice Ab (rd5 b).1.length cb)).setCell ⟨p, 99, none⟩ (.slice As (rd6 b).1.length cs)) := ((Upd.refl p w7).put 98 _).put 99 _
    have hi8 := hi7.upd u8 (by omega) (by omega)
    have R8 := R7.upd u8 (by omega)
    have B8 := u8.below B7 (by omega) B7.size
    have hk8 := hk7.updF u8 fk1 (by omega)
    have hb8 := hb7.updF u8 fb1 (by omega)
    have hs8 := hs7.updF u8 fs1 (by omega)
    have S8 := inend_any _ g (rd6 b).2 _ hi8
    rw [HP.out] at d5 d6 f5 f6 l7 x6 x7 S8
    have H8 := Lib.hid S8
    clear S8 x5
    go_wp2_with fail
    refine H8.out.mono ?_
    rw [← HP.out]
    rintro e w8 ⟨rfl, h8⟩
    rw [h8] at Y7 hi8 R8 B8 hk8 hb8 hs8
    have l8 := Y7.lt
    have lt8 := R8.lt
    clear h8 u8 X7 P7 R7 hk7 hb7 hs7 d0 d1 d5 d6 f5 f6 l7 x6 x7
    have hst := frStore w8 t FrP.zero (.slice none 0 0) (.slice none 0 0) rfl rfl fr_zero_wf (by rw [R8.has]; exact frC_size fr_zero_wf _ _)
    rw [HT.out] at hst
    have hrow : rowOf (w8.setRow w.heap.size (frC FrP.zero (.slice none 0 0) (.slice none 0 0))) w.heap.size = (frC FrP.zero (.slice none 0 0) (.slice none 0 0)) := rowOf_setRow _ _ _ (HT.out ▸ R8.row)
    have HROW := Lib.hid hrow
    clear hrow
    by_cases h1 : endP (rd6 b).2 = 0
    · have HE := Lib.hid h1
      rw [h1]
      clear h1
      by_cases h1 : (rd1 b).1 = 1
      · have g2 : (n64 (rd1 b).1 != (1 : Int)) = false := by rw [h1, n64_def]; rfl
        have HM := Lib.hid h1
        clear h1
        by_cases h1 : (rd4 b).1.length = 3
        · have g3 : (((rd4 b).1.length : Int) != (3 : Int)) = false := by rw [h1]; rfl
          have HL := Lib.hid h1
          clear h1
          obtain ⟨ga, oa, ck', he, hga, hkeys⟩ := hk8.keysAt HL.out
          injection he with e1 e2 e3
          subst e1
          have hgap : ga ≠ p := by have := fk1 ga oa none _ _ rfl; omega
          have k0 : (keyAt (rd4 b).1 0).length = 32 := keyAt_32 (ikeysP_32 _ _) 0
          have k1 : (keyAt (rd4 b).1 1).length = 32 := keyAt_32 (ikeysP_32 _ _) 1
          have k2 : (keyAt (rd4 b).1 2).length = 32 := keyAt_32 (ikeysP_32 _ _) 2
          have hd : Below w8.heap.size w8 w8.drew := (by repeat (first | with_reducible exact Below.refl _ _ | with_reducible assumption | refine Below.drew ?_ | refine below_drewN ?_ | refine Below.alloc ?_ (by first | omega | (simp; done) | (simp; omega)) _ | refine below_setRow ?_ (by omega) _ | refine Below.setCell ?_ (by first | omega | (simp; done) | (simp; omega)) _))
          have hS : KeysAt ga oa (keyAt (rd4 b).1 0) (keyAt (rd4 b).1 1) (keyAt (rd4 b).1 2) w8.drew := hkeys
          have Y10 := Y7.step hd
          have R10 := R8.step hd
          have B10 := B8.trans (hd.mono B8.size)
          have hb10 := hb8.step hd
          have hs10 := hs8.step hd
          have hga10 : ga < w8.drew.heap.size := hga
          clear Y7 R8 B8 hb8 hs8 hk8 hkeys hst HROW e2 e3 hi8
          go_wp2_with fail
          rw [HL.out]
          refine wp_region_lexS [] [2, 5, 8] (KeysAt ga oa (keyAt (rd4 b).1 0) (keyAt (rd4 b).1 1) (keyAt (rd4 b).1 2)) (by kernel_rfl) (by decide +kernel) hS (fun _ => ?_)
          generalize w8.drew = w10 at hS Y10 R10 B10 hb10 hs10 hga10 ⊢
          obtain ⟨K0, hK0⟩ : ∃ K0, K0 = keyAt (rd4 b).1 0 := ⟨_, rfl⟩
          obtain ⟨K1, hK1⟩ : ∃ K1, K1 = keyAt (rd4 b).1 1 := ⟨_, rfl⟩
          obtain ⟨K2, hK2⟩ : ∃ K2, K2 = keyAt (rd4 b).1 2 := ⟨_, rfl⟩
          rw [← hK0] at k0 hS ⊢
          rw [← hK1] at k1 hS ⊢
          rw [← hK2] at k2 hS ⊢
          have HK0 := Lib.hid hK0; have HK1 := Lib.hid hK1; have HK2 := Lib.hid hK2
          clear hK0 hK1 hK2 hd
          have t0 : (storeAgg 72 (.pointer (some ⟨p, 2, none⟩)) (.agg (u8s K0))).run Try.prog w10 = .ok .skip (w10.setRow p (frC ⟨i4, a4, K0, z32, z32, [], []⟩ (.slice Ab (rd5 b).1.length cb) (.slice As (rd6 b).1.length cs))) := frPut2 Y10 w1f k0
          have Y11 : RowIs (w10.setRow p (frC ⟨i4, a4, K0, z32, z32, [], []⟩ (.slice Ab (rd5 b).1.length cb) (.slice As (rd6 b).1.length cs))) p (frC ⟨i4, a4, K0, z32, z32, [], []⟩ (.slice Ab (rd5 b).1.length cb) (.slice As (rd6 b).1.length cs)) := Y10.set _
          have w2f : FrP.WF ⟨i4, a4, K0, z32, z32, [], []⟩ := ⟨i4l, a4l, k0, by simp, by simp, fun k hk => by simp at hk⟩
          have t1 : (storeAgg 72 (.pointer (some ⟨p, 34, none⟩)) (.agg (u8s K1))).run Try.prog (w10.setRow p (frC ⟨i4, a4, K0, z32, z32, [], []⟩ (.slice Ab (rd5 b).1.length cb) (.slice As (rd6 b).1.length cs))) = .ok .skip ((w10.setRow p (frC ⟨i4, a4, K0, z32, z32, [], []⟩ (.slice Ab (rd5 b).1.length cb) (.slice As (rd6 b).1.length cs))).setRow p (frC ⟨i4, a4, K0, K1, z32, [], []⟩ (.slice Ab (rd5 b).1.length cb) (.slice As (rd6 b).1.length cs))) := frPut34 Y11 w2f k1
          have Y12 : RowIs ((w10.setRow p (frC ⟨i4, a4, K0, z32, z32, [], []⟩ (.slice Ab (rd5 b).1.length cb) (.slice As (rd6 b).1.length cs))).setRow p (frC ⟨i4, a4, K0, K1, z32, [], []⟩ (.slice Ab (rd5 b).1.length cb) (.slice As (rd6 b).1.length cs))) p (frC ⟨i4, a4, K0, K1, z32, [], []⟩ (.slice Ab (rd5 b).1.length cb) (.slice As (rd6 b).1.length cs)) := Y11.set _
          have w3f : FrP.WF ⟨i4, a4, K0, K1, z32, [], []⟩ := ⟨i4l, a4l, k0, k1, by simp, fun k hk => by simp at hk⟩
          have t2 : (storeAgg 72 (.pointer (some ⟨p, 66, none⟩)) (.agg (u8s K2))).run Try.prog ((w10.setRow p (frC ⟨i4, a4, K0, z32, z32, [], []⟩ (.slice Ab (rd5 b).1.length cb) (.slice As (rd6 b).1.length cs))).setRow p (frC ⟨i4, a4, K0, K1, z32, [], []⟩ (.slice Ab (rd5 b).1.length cb) (.slice As (rd6 b).1.length cs))) = .ok .skip (((w10.setRow p (frC ⟨i4, a4, K0, z32, z32, [], []⟩ (.slice Ab (rd5 b).1.length cb) (.slice As (rd6 b).1.length cs))).setRow p (frC ⟨i4, a4, K0, K1, z32, [], []⟩ (.slice Ab (rd5 b).1.length cb) (.slice As (rd6 b).1.length cs))).setRow p (frC ⟨i4, a4, K0, K1, K2, [], []⟩ (.slice Ab (rd5 b).1.length cb) (.slice As (rd6 b).1.length cs))) := frPut66 Y12 w3f k2
          have Y13 : RowIs (((w10.setRow p (frC ⟨i4, a4, K0, z32, z32, [], []⟩ (.slice Ab (rd5 b).1.length cb) (.slice As (rd6 b).1.length cs))).setRow p (frC ⟨i4, a4, K0, K1, z32, [], []⟩ (.slice Ab (rd5 b).1.length cb) (.slice As (rd6 b).1.length cs))).setRow p (frC ⟨i4, a4, K0, K1, K2, [], []⟩ (.slice Ab (rd5 b).1.length cb) (.slice As (rd6 b).1.length cs))) p (frC ⟨i4, a4, K0, K1, K2, [], []⟩ (.slice Ab (rd5 b).1.length cb) (.slice As (rd6 b).1.length cs)) := Y12.set _
          have v1 := upd_setRow w10 p (frC ⟨i4, a4, K0, z32, z32, [], []⟩ (.slice Ab (rd5 b).1.length cb) (.slice As (rd6 b).1.length cs))
          have v2 := v1.trans (upd_setRow _ p (frC ⟨i4, a4, K0, K1, z32, [], []⟩ (.slice Ab (rd5 b).1.length cb) (.slice As (rd6 b).1.length cs)))
          have v3 := v2.trans (upd_setRow _ p (frC ⟨i4, a4, K0, K1, K2, [], []⟩ (.slice Ab (rd5 b).1.length cb) (.slice As (rd6 b).1.length cs)))
          have hS1 := hS.upd v1 hga10 hgap
          have hS2 := hS.upd v2 hga10 hgap
          have hS3 := hS.upd v3 hga10 hgap
          (go_wp2_with (first | (refine wpLexS_nil ?_) | (refine wpLexS_pure rfl (fun _ _ => ?_); go_simp; refine ⟨_, fun w9 hw9 => (by have s0 := key_load hw9.1 k0; have s1 := key_load hw9.2.1 k1; have s2 := key_load hw9.2.2 k2; go_simp; rfl), ?_⟩) | (refine wpLexS_pure0 rfl (fun _ _ => ?_); go_simp; try go_bits) | (refine wpLexS_read rfl (fun _ _ => ?_); go_simp; try go_bits)))
          refine wpLexS_loud rfl (fun KL hKL => ?_)
          go_wp2_with fail
          refine hKL _ _ hS1 (fun _ => ?_)
          clear KL hKL
          (go_wp2_with (first | (refine wpLexS_nil ?_) | (refine wpLexS_pure rfl (fun _ _ => ?_); go_simp; refine ⟨_, fun w9 hw9 => (by skip; go_simp; rfl), ?_⟩) | (refine wpLexS_pure0 rfl (fun _ _ => ?_); go_simp; try go_bits) | (refine wpLexS_read rfl (fun _ _ => ?_); go_simp; try go_bits)))
          refine wpLexS_loud rfl (fun KL hKL => ?_)
          go_wp2_with fail
          refine hKL _ _ hS2 (fun _ => ?_)
          clear KL hKL
          (go_wp2_with (first | (refine wpLexS_nil ?_) | (refine wpLexS_pure rfl (fun _ _ => ?_); go_simp; refine ⟨_, fun w9 hw9 => (by skip; go_simp; rfl), ?_⟩) | (refine wpLexS_pure0 rfl (fun _ _ => ?_); go_simp; try go_bits) | (refine wpLexS_read rfl (fun _ _ => ?_); go_simp; try go_bits)))
          refine wpLexS_loud rfl (fun KL hKL => ?_)
          go_wp2_with fail
          refine hKL _ _ hS3 (fun _ => ?_)
          clear KL hKL
          refine wpLexS_nil ?_
          have R13 := R10.upd v3 (by omega)
          have B13 := v3.below B10 (by omega) B10.size
          have hb13 := hb10.updF v3 fb1 (by omega)
          have hs13 := hs10.updF v3 fs1 (by omega)
          clear t0 t1 t2 Y10 Y11 Y12 R10 B10 hb10 hs10 hS hS1 hS2 hS3 v1 v2
          have hp3 := v3.size
          generalize ((w10.setRow p (frC ⟨i4, a4, K0, z32, z32, [], []⟩ (.slice Ab (rd5 b).1.length cb) (.slice As (rd6 b).1.length cs))).setRow p (frC ⟨i4, a4, K0, K1, z32, [], []⟩ (.slice Ab (rd5 b).1.length cb) (.slice As (rd6 b).1.length cs))).setRow p (frC ⟨i4, a4, K0, K1, K2, [], []⟩ (.slice Ab (rd5 b).1.length cb) (.slice As (rd6 b).1.length cs)) = w13 at Y13 R13 B13 hb13 hs13 v3 hp3 ⊢
          clear v3
          have hF : rdF b = ⟨i4, a4, K0, K1, K2, (rd5 b).1, (rd6 b).1⟩ := by rw [HI4.out, HA4.out, HK0.out, HK1.out, HK2.out]; rfl
          have hC : (frC ⟨i4, a4, K0, K1, K2, [], []⟩ (.slice Ab (rd5 b).1.length cb) (.slice As (rd6 b).1.length cs)) = frC (rdF b) (.slice Ab (rd5 b).1.length cb) (.slice As (rd6 b).1.length cs) := by rw [hF, frC_def, frC_def]; rfl
          have hwf : (rdF b).WF := by rw [hF]; exact ⟨i4l, a4l, k0, k1, k2, ikeysP_32 _ _⟩
          have FV : FrV w13 (rdF b) (.agg (frC (rdF b) (.slice Ab (rd5 b).1.length cb) (.slice As (rd6 b).1.length cs))) := ⟨_, _, rfl, hwf, hb13, hs13⟩
          rw [hC] at Y13
          clear hF hC
          have L13 := frload Y13 hwf
          have HC := Lib.hid (check_any (rdF b) _ w13 FV)
          go_wp2_with fail
          refine HC.out.mono ?_
          rintro e w14 ⟨rfl, b14⟩
          have Y14 := Y13.step b14
          have R14 := R13.step b14
          have FV14 := FV.step b14
          have B14 := B13.trans (b14.mono B13.size)
          clear L13
          by_cases h1 : checkP (rdF b) = 0
          · have CK : Hid (decFP b = (rdF b, 0)) := Lib.hid (by unfold decFP; rw [if_neg hlen, if_neg (fun e => e HE.out), if_neg (by intro e; rcases e with e | e; exact e HM.out; exact e HL.out), if_neg (fun e => e h1)])
            rw [h1]
            clear h1
            have L14 := frload Y14 hwf
            have hst := frStore w14 t (rdF b) (.slice Ab (rd5 b).1.length cb) (.slice As (rd6 b).1.length cs) rfl rfl hwf (by rw [R14.has]; exact frC_size fr_zero_wf _ _)
            rw [HT.out] at hst
            have hrow : rowOf (w14.setRow w.heap.size (frC (rdF b) (.slice Ab (rd5 b).1.length cb) (.slice As (rd6 b).1.length cs))) w.heap.size = frC (rdF b) (.slice Ab (rd5 b).1.length cb) (.slice As (rd6 b).1.length cs) := rowOf_setRow _ _ _ (HT.out ▸ R14.row)
            have HROW := Lib.hid hrow
            clear hrow
            have FV15 : FrV (w14.setRow w.heap.size (frC (rdF b) (.slice Ab (rd5 b).1.length cb) (.slice As (rd6 b).1.length cs))) (rdF b) (.agg (frC (rdF b) (.slice Ab (rd5 b).1.length cb) (.slice As (rd6 b).1.length cs))) := by
              exact ⟨_, _, rfl, hwf, (hb13.step b14).updF (upd_setRow _ _ _) fb1 (by have := HT.out; omega), (hs13.step b14).updF (upd_setRow _ _ _) fs1 (by have := HT.out; omega)⟩
            go_wp2_with fail
            have hrow := HROW.out
            refine bodyPost_rowTmp 2 3 80 w.heap.size 100 rfl rfl (by omega) (by kernel_rfl) (by kernel_rfl) (by rw [hrow]; exact frC_size hwf _ _) rfl ?_
            exact ⟨.agg (frC (rdF b) (.slice Ab (rd5 b).1.length cb) (.slice As (rd6 b).1.length cs)), by rw [hrow, CK.out]; rfl, by rw [CK.out]; exact FV15, below_setRow B14 (Nat.le_refl _) _⟩
          · have g4 : (checkP (rdF b) != (0 : Int)) = true := by rw [bne_iff_ne]; exact h1
            have CK : Hid (decFP b = (.zero, checkP (rdF b))) := Lib.hid (by unfold decFP; rw [if_neg hlen, if_neg (fun e => e HE.out), if_neg (by intro e; rcases e with e | e; exact e HM.out; exact e HL.out), if_pos h1])
            have hst := frStore w14 t FrP.zero (.slice none 0 0) (.slice none 0 0) rfl rfl fr_zero_wf (by rw [R14.has]; exact frC_size fr_zero_wf _ _)
            rw [HT.out] at hst
            have hrow : rowOf (w14.setRow w.heap.size (frC FrP.zero (.slice none 0 0) (.slice none 0 0))) w.heap.size = (frC FrP.zero (.slice none 0 0) (.slice none 0 0)) := rowOf_setRow _ _ _ (HT.out ▸ R14.row)
            have HROW := Lib.hid hrow
            clear hrow
            clear h1
            go_wp2_with fail
            have hrow := HROW.out
            refine bodyPost_rowTmp 2 3 80 w.heap.size 100 rfl rfl (by omega) (by kernel_rfl) (by kernel_rfl) (by rw [hrow]; exact frC_size fr_zero_wf _ _) rfl ?_
            exact ⟨.agg (frC FrP.zero (.slice none 0 0) (.slice none 0 0)), by rw [hrow, CK.out]; rfl, by rw [CK.out]; exact frv_zero _, below_setRow B14 (Nat.le_refl _) _⟩
        · have g3 : (((rd4 b).1.length : Int) != (3 : Int)) = true := by rw [bne_iff_ne]; omega
          have CK : Hid (decFP b = (.zero, 51)) := Lib.hid (by unfold decFP; rw [if_neg hlen, if_neg (fun e => e HE.out), if_pos (.inr h1)])
          clear h1
          go_wp2_with fail
          have hrow := HROW.out
          refine bodyPost_rowTmp 2 3 80 w.heap.size 100 rfl rfl (by omega) (by kernel_rfl) (by kernel_rfl) (by rw [hrow]; exact frC_size fr_zero_wf _ _) rfl ?_
          exact ⟨.agg (frC FrP.zero (.slice none 0 0) (.slice none 0 0)), by rw [hrow, CK.out]; rfl, by rw [CK.out]; exact frv_zero _, below_setRow B8 (Nat.le_refl _) _⟩
      · have g2 : (n64 (rd1 b).1 != (1 : Int)) = true := by
          rw [bne_iff_ne]
          intro e
          apply h1
          apply UInt64.toNat.inj
          rw [n64_def] at e
          have : ((1 : UInt64).toNat : Int) = 1 := rfl
          omega
        have CK : Hid (decFP b = (.zero, 51)) := Lib.hid (by unfold decFP; rw [if_neg hlen, if_neg (fun e => e HE.out), if_pos (.inl h1)])
        clear h1
        go_wp2_with fail
        have hrow := HROW.out
        refine bodyPost_rowTmp 2 3 80 w.heap.size 100 rfl rfl (by omega) (by kernel_rfl) (by kernel_rfl) (by rw [hrow]; exact frC_size fr_zero_wf _ _) rfl ?_
        exact ⟨.agg (frC FrP.zero (.slice none 0 0) (.slice none 0 0)), by rw [hrow, CK.out]; rfl, by rw [CK.out]; exact frv_zero _, below_setRow B8 (Nat.le_refl _) _⟩
    · have g1 : (endP (rd6 b).2 != (0 : Int)) = true := by rw [bne_iff_ne]; exact h1
      have CK : Hid (decFP b = (.zero, endP (rd6 b).2)) := Lib.hid (by unfold decFP; rw [if_neg hlen, if_pos h1])
      clear h1
      go_wp2_with fail
      have hrow := HROW.out
      refine bodyPost_rowTmp 2 3 80 w.heap.size 100 rfl rfl (by omega) (by kernel_rfl) (by kernel_rfl) (by rw [hrow]; exact frC_size fr_zero_wf _ _) rfl ?_
      exact ⟨.agg (frC FrP.zero (.slice none 0 0) (.slice none 0 0)), by rw [hrow, CK.out]; rfl, by rw [CK.out]; exact frv_zero _, below_setRow B8 (Nat.le_refl _) _⟩
end
end
section
section
open Go.RowKit
attribute [local go_sem] zcFr frBuild0
theorem upd_cell (w : World) (p i : Nat) (v : Value) : Upd p w (w.setCell ⟨p, i, none⟩ v) := (Upd.refl p w).put i v
set_option maxRecDepth 100000 in
set_option maxHeartbeats 6400000 in
theorem refdec_any (v : Value) (b : List UInt8) (w : World) (hv : Bs w v b) : Calls Try.prog 54 #[v] w (FrTo (decFP b) w) := by
  obtain ⟨A0, c0, rfl, -⟩ := id hv
  obtain ⟨t, ht⟩ : ∃ t, t = w.heap.size := ⟨_, rfl⟩
  have B : Below w.heap.size w (w.alloc (.cells (frC FrP.zero (.slice none 0 0) (.slice none 0 0)) 80)) := (by repeat (first | with_reducible exact Below.refl _ _ | with_reducible assumption | refine Below.drew ?_ | refine below_drewN ?_ | refine Below.alloc ?_ (by first | omega | (simp; done) | (simp; omega)) _ | refine below_setRow ?_ (by omega) _ | refine Below.setCell ?_ (by first | omega | (simp; done) | (simp; omega)) _))
  have R : RowIs (w.alloc (.cells (frC FrP.zero (.slice none 0 0) (.slice none 0 0)) 80)) t (frC FrP.zero (.slice none 0 0) (.slice none 0 0)) := RowIs.new' ht
  have HT := Lib.hid ht
  by_cases hlen : 8000 < b.length
  · have g0 : (8000 : Int) < (b.length : Int) := by omega
    have CK : Hid (decFP b = (.zero, 2)) := Lib.hid (if_pos hlen)
    have hst := frStore (w.alloc (.cells (frC FrP.zero (.slice none 0 0) (.slice none 0 0)) 80)) t FrP.zero (.slice none 0 0) (.slice none 0 0) rfl rfl fr_zero_wf (by rw [R.has]; exact frC_size fr_zero_wf _ _)
    rw [HT.out] at hst
    have hrow : rowOf (w.alloc (.cells (frC FrP.zero (.slice none 0 0) (.slice none 0 0)) 80)) w.heap.size = (frC FrP.zero (.slice none 0 0) (.slice none 0 0)) := HT.out ▸ R.has
    have HROW := Lib.hid hrow
    clear hlen hrow
    go_enter Try.func54, Try.ntmps54
    go_wp2_with fail
    have hrow := HROW.out
    refine bodyPost_rowTmp 2 3 80 w.heap.size 100 rfl rfl (by omega) (by kernel_rfl) (by kernel_rfl) (by rw [hrow]; exact frC_size fr_zero_wf _ _) rfl ?_
    exact ⟨.agg (frC FrP.zero (.slice none 0 0) (.slice none 0 0)), by rw [hrow, CK.out]; rfl, by rw [CK.out]; exact frv_zero _, B⟩
  · have g0 : ¬ (8000 : Int) < (b.length : Int) := by omega
    obtain ⟨g, hg⟩ : ∃ g, g = w.heap.size + 1 := ⟨_, rfl⟩
    obtain ⟨p, hp⟩ : ∃ p, p = w.heap.size + 1 + 1 := ⟨_, rfl⟩
    have BI : Below w.heap.size w ((w.alloc (.cells (frC FrP.zero (.slice none 0 0) (.slice none 0 0)) 80)).alloc (.cells #[.slice A0 b.length c0, .int .i64 0, .int .i64 0] 66)) := (by repeat (first | with_reducible exact Below.refl _ _ | with_reducible assumption | refine Below.drew ?_ | refine below_drewN ?_ | refine Below.alloc ?_ (by first | omega | (simp; done) | (simp; omega)) _ | refine below_setRow ?_ (by omega) _ | refine Below.setCell ?_ (by first | omega | (simp; done) | (simp; omega)) _))
    have B2 : Below w.heap.size w (((w.alloc (.cells (frC FrP.zero (.slice none 0 0) (.slice none 0 0)) 80)).alloc (.cells #[.slice A0 b.length c0, .int .i64 0, .int .i64 0] 66)).alloc (.cells (frC FrP.zero (.slice none 0 0) (.slice none 0 0)) 80)) := (by repeat (first | with_reducible exact Below.refl _ _ | with_reducible assumption | refine Below.drew ?_ | refine below_drewN ?_ | refine Below.alloc ?_ (by first | omega | (simp; done) | (simp; omega)) _ | refine below_setRow ?_ (by omega) _ | refine Below.setCell ?_ (by first | omega | (simp; done) | (simp; omega)) _))
    have R2 : RowIs (((w.alloc (.cells (frC FrP.zero (.slice none 0 0) (.slice none 0 0)) 80)).alloc (.cells #[.slice A0 b.length c0, .int .i64 0, .int .i64 0] 66)).alloc (.cells (frC FrP.zero (.slice none 0 0) (.slice none 0 0)) 80)) t (frC FrP.zero (.slice none 0 0) (.slice none 0 0)) := (R.alloc _).alloc _
    have hi0 : RInIs ((w.alloc (.cells (frC FrP.zero (.slice none 0 0) (.slice none 0 0)) 80)).alloc (.cells #[.slice A0 b.length c0, .int .i64 0, .int .i64 0] 66)) w.heap.size g ⟨b, 0⟩ := ⟨by omega, _, b, 0, RowIs.new' (by rw [hg]; simp), hv.bsB.keep BI, Nat.zero_le _, fun _ => rfl, fun e => absurd rfl e⟩
    have hi1 : RInIs (((w.alloc (.cells (frC FrP.zero (.slice none 0 0) (.slice none 0 0)) 80)).alloc (.cells #[.slice A0 b.length c0, .int .i64 0, .int .i64 0] 66)).alloc (.cells (frC FrP.zero (.slice none 0 0) (.slice none 0 0)) 80)) w.heap.size g ⟨b, 0⟩ := hi0.step ((by repeat (first | with_reducible exact Below.refl _ _ | with_reducible assumption | refine Below.drew ?_ | refine below_drewN ?_ | refine Below.alloc ?_ (by first | omega | (simp; done) | (simp; omega)) _ | refine below_setRow ?_ (by omega) _ | refine Below.setCell ?_ (by first | omega | (simp; done) | (simp; omega)) _)))
    have P2 : RowIs (((w.alloc (.cells (frC FrP.zero (.slice none 0 0) (.slice none 0 0)) 80)).alloc (.cells #[.slice A0 b.length c0, .int .i64 0, .int .i64 0] 66)).alloc (.cells (frC FrP.zero (.slice none 0 0) (.slice none 0 0)) 80)) p (frC FrP.zero (.slice none 0 0) (.slice none 0 0)) := RowIs.new' (by rw [hp]; simp)
    have hz4 := frC_size fr_zero_wf (.slice none 0 0) (.slice none 0 0)
    have hst2 := frStore (((w.alloc (.cells (frC FrP.zero (.slice none 0 0) (.slice none 0 0)) 80)).alloc (.cells #[.slice A0 b.length c0, .int .i64 0, .int .i64 0] 66)).alloc (.cells (frC FrP.zero (.slice none 0 0) (.slice none 0 0)) 80)) p FrP.zero (.slice none 0 0) (.slice none 0 0) rfl rfl fr_zero_wf (by rw [P2.has]; exact hz4)
    have htg : t < g := by omega
    have hgp : g < p := by omega
    have hgw : w.heap.size ≤ g := by omega
    have p2 := P2.lt
    have S2 := rnum_any _ g ⟨b, 0⟩ 1 _ hi1
    rw [show inumP ⟨b, 0⟩ 1 = rd1 b from rfl, hg] at S2
    rw [hp] at hst2
    have H2 := Lib.hid S2
    have HG := Lib.hid hg; have HP := Lib.hid hp
    clear S2 ht hg hp hi0 R B
    go_enter Try.func54, Try.ntmps54
    go_wp2_with fail
    refine H2.out.mono ?_
    rw [← HP.out, ← HG.out]
    rintro e w2 ⟨rfl, hi2, u2⟩
    have P3 := P2.upd u2 (by omega)
    have R3 := R2.upd u2 (by omega)
    have B3 := u2.below B2 hgw B2.size
    have S3 := rnum_any _ g (rd1 b).2 4 w2 hi2
    rw [show inumP (rd1 b).2 4 = rd2 b from rfl] at S3
    have H3 := Lib.hid S3
    clear S3 hst2
    go_wp2_with fail
    refine H3.out.mono ?_
    rintro e w3 ⟨rfl, hi3, u3⟩
    have P4 := P3.upd u3 (by omega)
    have R4 := R3.upd u3 (by omega)
    have B4 := u3.below B3 hgw B3.size
    obtain ⟨i4, hi4⟩ : ∃ i4 : Nat, i4 = (rd2 b).1.toNat % 4294967296 := ⟨_, rfl⟩
    obtain ⟨a4, ha4⟩ : ∃ a4 : Nat, a4 = (rd3 b).1.toNat % 4294967296 := ⟨_, rfl⟩
    have e1 : IntKind.u32.wrap (n64 (rd2 b).1) = (i4 : Int) := by rw [hi4, n64_def]; unfold IntKind.wrap; simp [IntKind.bits, IntKind.signed]
    have e2 : IntKind.u32.wrap (n64 (rd3 b).1) = (a4 : Int) := by rw [ha4, n64_def]; unfold IntKind.wrap; simp [IntKind.bits, IntKind.signed]
    have HI4 := Lib.hid hi4; have HA4 := Lib.hid ha4
    have i4l : i4 < 4294967296 := by omega
    have a4l : a4 < 4294967296 := by omega
    clear hi4 ha4
    obtain ⟨c40, -, -, -⟩ := fr_cells P4 fr_zero_wf
    have f40 := P4.fz 0
    have P5 := P4.put 0 (.int .u32 i4)
    rw [frC_set0] at P5
    have u4 := upd_cell w3 p 0 (.int .u32 i4)
    have R5 := R4.upd u4 (by omega)
    have B5 := u4.below B4 (by omega) B4.size
    have hi5 := hi3.upd u4 (by omega) (by omega)
    have wf5 : FrP.WF { FrP.zero with idx := i4 } := ⟨i4l, fr_zero_wf.ack, fr_zero_wf.eph, fr_zero_wf.epo, fr_zero_wf.nxt, fr_zero_wf.sign⟩
    have S4 := rnum_any _ g (rd2 b).2 4 _ hi5
    rw [show inumP (rd2 b).2 4 = rd3 b from rfl] at S4
    have H4 := Lib.hid S4
    have lt4 := P4.lt
    clear S4
    go_wp2_with fail
    refine H4.out.mono ?_
    rintro e w5 ⟨rfl, hi6, u5⟩
    have P6 := P5.upd u5 (by omega)
    have R6 := R5.upd u5 (by omega)
    have B6 := u5.below B5 hgw B5.size
    obtain ⟨-, c61, -, -⟩ := fr_cells P6 wf5
    have f61 := P6.fz 1
    have P7 := P6.put 1 (.int .u32 a4)
    rw [frC_set1] at P7
    have u6 := upd_cell w5 p 1 (.int .u32 a4)
    have R7 := R6.upd u6 (by omega)
    have B7 := u6.below B6 (by omega) B6.size
    have hi7 := hi6.upd u6 (by omega) (by omega)
    have w1f : FrP.WF ⟨i4, a4, z32, z32, z32, [], []⟩ := ⟨i4l, a4l, by simp, by simp, by simp, fun k hk => by simp at hk⟩
    replace P7 : RowIs (w5.setCell ⟨p, 1, none⟩ (.int .u32 a4)) p (frC ⟨i4, a4, z32, z32, z32, [], []⟩ (.slice none 0 0) (.slice none 0 0)) := P7
    have S5 := rkeys_own _ g (rd3 b).2 3 _ hi7
    rw [show ikeysP (rd3 b).2 3 = rd4 b from rfl] at S5
    have H5 := Lib.hid S5
    have lt6 := P6.lt
    clear S5 c40 f40
    go_wp2_with fail
    refine H5.out.mono ?_
    rintro e w7 ⟨vk, rfl, hk7, fk, hi8, u7⟩
    have fk1 : Fresh (p + 1) vk := fk.less (by have := P7.lt; omega)
    have P8 := P7.upd u7 (by omega)
    have R8 := R7.upd u7 (by omega)
    have B8 := u7.below B7 hgw B7.size
    have S6 := rbytes_any _ g (rd4 b).2 264 w7 hi8
    rw [show ibytesP (rd4 b).2 264 = rd5 b from rfl] at S6
    have H6 := Lib.hid S6
    clear S6 c61 f61
    go_wp2_with fail
    refine H6.out.mono ?_
    rintro e w8 ⟨vb, rfl, hb8, hi9, u8⟩
    obtain ⟨Ab, cb, rfl, -⟩ := id hb8
    have P9 := P8.upd u8 (by omega)
    have R9 := R8.upd u8 (by omega)
    have B9 := u8.below B8 hgw B8.size
    have hk9 := hk7.updF u8 fk1 (by omega)
    obtain ⟨-, -, c98, c99⟩ := fr_cells P9 w1f
    have f98 := P9.fz 98
    have PA := P9.put 98 (.slice Ab (rd5 b).1.length cb)
    rw [frC_set98 w1f] at PA
    have u9 := upd_cell w8 p 98 (.slice Ab (rd5 b).1.length cb)
    have RA := R9.upd u9 (by omega)
    have BA := u9.below B9 (by omega) B9.size
    have hiA := hi9.upd u9 (by omega) (by omega)
    have hkA := hk9.updF u9 fk1 (by omega)
    have hbA := hb8.keep (upd_below u9 (by omega) B9.size)
    have S7 := rkeys_own _ g (rd5 b).2 67 _ hiA
    rw [show ikeysP (rd5 b).2 67 = rd6 b from rfl] at S7
    have H7 := Lib.hid S7
    have lt9 := P9.lt
    clear S7
    go_wp2_with fail
    refine H7.out.mono ?_
    rintro e wA ⟨vs, rfl, hsB, fs, hiB, uA⟩
    obtain ⟨As, cs, rfl, -⟩ := id hsB
    have fs1 := fs.less (show p + 1 ≤ _ by have := PA.lt; omega)
    obtain ⟨Ak, ck, rfl, -⟩ := id hkA
    have PB := PA.upd uA (by omega)
    have RB := RA.upd uA (by omega)
    have BB := uA.below BA hgw BA.size
    have hkB := hkA.updF uA fk1 (by omega)
    have hbB := hbA.keep (upd_below uA hgw BA.size)
    obtain ⟨-, -, -, d99⟩ := fr_cells PB w1f
    have f99 := PB.fz 99
    have Y8 := PB.put 99 (.slice As (rd6 b).1.length cs)
    rw [frC_set99 w1f] at Y8
    have uB := upd_cell wA p 99 (.slice As (rd6 b).1.length cs)
    have R10 := RB.upd uB (by omega)
    have B10 := uB.below BB (by omega) BB.size
    have hiC := hiB.upd uB (by omega) (by omega)
    have hk10 := hkB.updF uB fk1 (by omega)
    have hb10 := hbB.keep (upd_below uB (by omega) BB.size)
    have hs10 := hsB.updF uB fs1 (by omega)
    have S8 := rend_any _ g (rd6 b).2 _ hiC
    have H8 := Lib.hid S8
    have ltB := PB.lt
    clear S8 c98 c99 f98
    go_wp2_with fail
    refine H8.out.mono ?_
    rintro e w10 ⟨rfl, h8⟩
    have q8 : Below (wA.setCell ⟨p, 99, none⟩ (.slice As (rd6 b).1.length cs)).heap.size (wA.setCell ⟨p, 99, none⟩ (.slice As (rd6 b).1.length cs)) w10 := by rw [h8]; exact (by repeat (first | with_reducible exact Below.refl _ _ | with_reducible assumption | refine Below.drew ?_ | refine below_drewN ?_ | refine Below.alloc ?_ (by first | omega | (simp; done) | (simp; omega)) _ | refine below_setRow ?_ (by omega) _ | refine Below.setCell ?_ (by first | omega | (simp; done) | (simp; omega)) _))
    have Y10 := Y8.step q8
    replace R10 := R10.step q8
    replace hb10 := hb10.keep (q8.mono B10.size)
    replace B10 := B10.trans (q8.mono B10.size)
    replace hk10 := hk10.step q8
    replace hs10 := hs10.step q8
    have l8 := Y10.lt
    have lt8 := R10.lt
    clear h8 q8 uB uA u9 u8 d99 f99 Y8 PB RB hkB hbB hsB PA RA hkA hbA hk9 hb8 P9 R9 P8 R8
    have hst := frStore w10 t FrP.zero (.slice none 0 0) (.slice none 0 0) rfl rfl fr_zero_wf (by rw [R10.has]; exact frC_size fr_zero_wf _ _)
    rw [HT.out] at hst
    have hrow : rowOf (w10.setRow w.heap.size (frC FrP.zero (.slice none 0 0) (.slice none 0 0))) w.heap.size = (frC FrP.zero (.slice none 0 0) (.slice none 0 0)) := rowOf_setRow _ _ _ (HT.out ▸ R10.row)
    have HROW := Lib.hid hrow
    clear hrow
    by_cases h1 : endP (rd6 b).2 = 0
    · have HE := Lib.hid h1
      rw [h1]
      clear h1
      by_cases h1 : (rd1 b).1 = 1
      · have g2 : (n64 (rd1 b).1 != (1 : Int)) = false := by rw [h1, n64_def]; rfl
        have HM := Lib.hid h1
        clear h1
        by_cases h1 : (rd4 b).1.length = 3
        · have g3 : (((rd4 b).1.length : Int) != (3 : Int)) = false := by rw [h1]; rfl
          have HL := Lib.hid h1
          clear h1
          obtain ⟨ga, oa, ck', he, hga10, hS⟩ := hk10.keysAt HL.out
          injection he with e1 e2 e3
          subst e1
          have hgap : ga ≠ p := by have := fk1 ga oa none _ _ rfl; omega
          have k0 : (keyAt (rd4 b).1 0).length = 32 := keyAt_32 (ikeysP_32 _ _) 0
          have k1 : (keyAt (rd4 b).1 1).length = 32 := keyAt_32 (ikeysP_32 _ _) 1
          have k2 : (keyAt (rd4 b).1 2).length = 32 := keyAt_32 (ikeysP_32 _ _) 2
          obtain ⟨K0, hK0⟩ : ∃ K0, K0 = keyAt (rd4 b).1 0 := ⟨_, rfl⟩
          obtain ⟨K1, hK1⟩ : ∃ K1, K1 = keyAt (rd4 b).1 1 := ⟨_, rfl⟩
          obtain ⟨K2, hK2⟩ : ∃ K2, K2 = keyAt (rd4 b).1 2 := ⟨_, rfl⟩
          rw [← hK0] at k0 hS
          rw [← hK1] at k1 hS
          rw [← hK2] at k2 hS
          have HK0 := Lib.hid hK0; have HK1 := Lib.hid hK1; have HK2 := Lib.hid hK2
          clear hK0 hK1 hK2 hst HROW e2 e3
          have t0 : (storeAgg 72 (.pointer (some ⟨p, 2, none⟩)) (.agg (u8s K0))).run Try.prog w10 = .ok .skip (w10.setRow p (frC ⟨i4, a4, K0, z32, z32, [], []⟩ (.slice Ab (rd5 b).1.length cb) (.slice As (rd6 b).1.length cs))) := frPut2 Y10 w1f k0
          have Y11 : RowIs (w10.setRow p (frC ⟨i4, a4, K0, z32, z32, [], []⟩ (.slice Ab (rd5 b).1.length cb) (.slice As (rd6 b).1.length cs))) p (frC ⟨i4, a4, K0, z32, z32, [], []⟩ (.slice Ab (rd5 b).1.length cb) (.slice As (rd6 b).1.length cs)) := Y10.set _
          have w2f : FrP.WF ⟨i4, a4, K0, z32, z32, [], []⟩ := ⟨i4l, a4l, k0, by simp, by simp, fun k hk => by simp at hk⟩
          have t1 : (storeAgg 72 (.pointer (some ⟨p, 34, none⟩)) (.agg (u8s K1))).run Try.prog (w10.setRow p (frC ⟨i4, a4, K0, z32, z32, [], []⟩ (.slice Ab (rd5 b).1.length cb) (.slice As (rd6 b).1.length cs))) = .ok .skip ((w10.setRow p (frC ⟨i4, a4, K0, z32, z32, [], []⟩ (.slice Ab (rd5 b).1.length cb) (.slice As (rd6 b).1.length cs))).setRow p (frC ⟨i4, a4, K0, K1, z32, [], []⟩ (.slice Ab (rd5 b).1.length cb) (.slice As (rd6 b).1.length cs))) := frPut34 Y11 w2f k1
          have Y12 : RowIs ((w10.setRow p (frC ⟨i4, a4, K0, z32, z32, [], []⟩ (.slice Ab (rd5 b).1.length cb) (.slice As (rd6 b).1.length cs))).setRow p (frC ⟨i4, a4, K0, K1, z32, [], []⟩ (.slice Ab (rd5 b).1.length cb) (.slice As (rd6 b).1.length cs))) p (frC ⟨i4, a4, K0, K1, z32, [], []⟩ (.slice Ab (rd5 b).1.length cb) (.slice As (rd6 b).1.length cs)) := Y11.set _
          have w3f : FrP.WF ⟨i4, a4, K0, K1, z32, [], []⟩ := ⟨i4l, a4l, k0, k1, by simp, fun k hk => by simp at hk⟩
          have t2 : (storeAgg 72 (.pointer (some ⟨p, 66, none⟩)) (.agg (u8s K2))).run Try.prog ((w10.setRow p (frC ⟨i4, a4, K0, z32, z32, [], []⟩ (.slice Ab (rd5 b).1.length cb) (.slice As (rd6 b).1.length cs))).setRow p (frC ⟨i4, a4, K0, K1, z32, [], []⟩ (.slice Ab (rd5 b).1.length cb) (.slice As (rd6 b).1.length cs))) = .ok .skip (((w10.setRow p (frC ⟨i4, a4, K0, z32, z32, [], []⟩ (.slice Ab (rd5 b).1.length cb) (.slice As (rd6 b).1.length cs))).setRow p (frC ⟨i4, a4, K0, K1, z32, [], []⟩ (.slice Ab (rd5 b).1.length cb) (.slice As (rd6 b).1.length cs))).setRow p (frC ⟨i4, a4, K0, K1, K2, [], []⟩ (.slice Ab (rd5 b).1.length cb) (.slice As (rd6 b).1.length cs))) := frPut66 Y12 w3f k2
          have Y13 : RowIs (((w10.setRow p (frC ⟨i4, a4, K0, z32, z32, [], []⟩ (.slice Ab (rd5 b).1.length cb) (.slice As (rd6 b).1.length cs))).setRow p (frC ⟨i4, a4, K0, K1, z32, [], []⟩ (.slice Ab (rd5 b).1.length cb) (.slice As (rd6 b).1.length cs))).setRow p (frC ⟨i4, a4, K0, K1, K2, [], []⟩ (.slice Ab (rd5 b).1.length cb) (.slice As (rd6 b).1.length cs))) p (frC ⟨i4, a4, K0, K1, K2, [], []⟩ (.slice Ab (rd5 b).1.length cb) (.slice As (rd6 b).1.length cs)) := Y12.set _
          have v1 := upd_setRow w10 p (frC ⟨i4, a4, K0, z32, z32, [], []⟩ (.slice Ab (rd5 b).1.length cb) (.slice As (rd6 b).1.length cs))
          have v2 := v1.trans (upd_setRow _ p (frC ⟨i4, a4, K0, K1, z32, [], []⟩ (.slice Ab (rd5 b).1.length cb) (.slice As (rd6 b).1.length cs)))
          have v3 := v2.trans (upd_setRow _ p (frC ⟨i4, a4, K0, K1, K2, [], []⟩ (.slice Ab (rd5 b).1.length cb) (.slice As (rd6 b).1.length cs)))
          have hS1 := hS.upd v1 hga10 hgap
          have hS2 := hS.upd v2 hga10 hgap
          have s0 := key_load hS.1 k0
          have s1 := key_load hS1.2.1 k1
          have s2 := key_load hS2.2.2 k2
          have R13 := R10.upd v3 (by omega)
          have B13 := v3.below B10 (by omega) B10.size
          have hb13 := hb10.keep (upd_below v3 (by omega) B10.size)
          have hs13 := hs10.updF v3 fs1 (by omega)
          have hF : rdF b = ⟨i4, a4, K0, K1, K2, (rd5 b).1, (rd6 b).1⟩ := by rw [HI4.out, HA4.out, HK0.out, HK1.out, HK2.out]; rfl
          have hC : (frC ⟨i4, a4, K0, K1, K2, [], []⟩ (.slice Ab (rd5 b).1.length cb) (.slice As (rd6 b).1.length cs)) = (frC (rdF b) (.slice Ab (rd5 b).1.length cb) (.slice As (rd6 b).1.length cs)) := by rw [hF, frC_def, frC_def]; rfl
          have hwf : (rdF b).WF := by rw [hF]; exact ⟨i4l, a4l, k0, k1, k2, ikeysP_32 _ _⟩
          have Y14 : RowIs (((w10.setRow p (frC ⟨i4, a4, K0, z32, z32, [], []⟩ (.slice Ab (rd5 b).1.length cb) (.slice As (rd6 b).1.length cs))).setRow p (frC ⟨i4, a4, K0, K1, z32, [], []⟩ (.slice Ab (rd5 b).1.length cb) (.slice As (rd6 b).1.length cs))).setRow p (frC ⟨i4, a4, K0, K1, K2, [], []⟩ (.slice Ab (rd5 b).1.length cb) (.slice As (rd6 b).1.length cs))) p (frC (rdF b) (.slice Ab (rd5 b).1.length cb) (.slice As (rd6 b).1.length cs)) := by rw [← hC]; exact Y13
          have FV : FrV (((w10.setRow p (frC ⟨i4, a4, K0, z32, z32, [], []⟩ (.slice Ab (rd5 b).1.length cb) (.slice As (rd6 b).1.length cs))).setRow p (frC ⟨i4, a4, K0, K1, z32, [], []⟩ (.slice Ab (rd5 b).1.length cb) (.slice As (rd6 b).1.length cs))).setRow p (frC ⟨i4, a4, K0, K1, K2, [], []⟩ (.slice Ab (rd5 b).1.length cb) (.slice As (rd6 b).1.length cs))) (rdF b) (.agg (frC (rdF b) (.slice Ab (rd5 b).1.length cb) (.slice As (rd6 b).1.length cs))) := ⟨_, _, rfl, hwf, hb13.bs B13.size, hs13⟩
          have L13 := frload Y14 hwf
          have HC := Lib.hid (refcheck_any (rdF b) _ _ FV)
          clear hF hC Y13 Y12 Y11 hS hS1 hS2 v1 v2 v3 Y10 R10
          rw [HL.out]
          go_wp2_with fail
          refine HC.out.mono ?_
          rintro e w14 ⟨rfl, b14⟩
          clear t0 t1 t2 L13 s0 s1 s2
          replace Y14 := Y14.step b14
          have R14 := R13.step b14
          replace FV := FV.step b14
          have hb14 := (hb13.bs B13.size).step b14
          have B14 := B13.trans (b14.mono B13.size)
          by_cases h1 : checkP (rdF b) = 0
          · have CK : Hid (decFP b = (rdF b, 0)) := Lib.hid (by unfold decFP; rw [if_neg hlen, if_neg (fun e => e HE.out), if_neg (by intro e; rcases e with e | e; exact e HM.out; exact e HL.out), if_neg (fun e => e h1)])
            rw [h1]
            clear h1
            have L14 := frload Y14 hwf
            have hst := frStore w14 t (rdF b) (.slice Ab (rd5 b).1.length cb) (.slice As (rd6 b).1.length cs) rfl rfl hwf (by rw [R14.has]; exact frC_size fr_zero_wf _ _)
            rw [HT.out] at hst
            have hrow : rowOf (w14.setRow w.heap.size (frC (rdF b) (.slice Ab (rd5 b).1.length cb) (.slice As (rd6 b).1.length cs))) w.heap.size = (frC (rdF b) (.slice Ab (rd5 b).1.length cb) (.slice As (rd6 b).1.length cs)) := rowOf_setRow _ _ _ (HT.out ▸ R14.row)
            have HROW := Lib.hid hrow
            clear hrow
            have hb15 := (hb13.keep (b14.mono B13.size)).keep (below_setRow (Below.refl w.heap.size w14) (Nat.le_refl _) (frC (rdF b) (.slice Ab (rd5 b).1.length cb) (.slice As (rd6 b).1.length cs)))
            have FV15 : FrV (w14.setRow w.heap.size (frC (rdF b) (.slice Ab (rd5 b).1.length cb) (.slice As (rd6 b).1.length cs))) (rdF b) (.agg (frC (rdF b) (.slice Ab (rd5 b).1.length cb) (.slice As (rd6 b).1.length cs))) := ⟨_, _, rfl, hwf, hb15.bs (by simp [World.setRow]; exact B14.size), (hs13.step b14).updF (upd_setRow _ _ _) fs1 (by have := HT.out; omega)⟩
            go_wp2_with fail
            have hrow := HROW.out
            refine bodyPost_rowTmp 2 3 80 w.heap.size 100 rfl rfl (by omega) (by kernel_rfl) (by kernel_rfl) (by rw [hrow]; exact frC_size hwf _ _) rfl ?_
            exact ⟨.agg (frC (rdF b) (.slice Ab (rd5 b).1.length cb) (.slice As (rd6 b).1.length cs)), by rw [hrow, CK.out]; rfl, by rw [CK.out]; exact FV15, below_setRow B14 (Nat.le_refl _) _⟩
          · have g4 : (checkP (rdF b) != (0 : Int)) = true := by rw [bne_iff_ne]; exact h1
            have CK : Hid (decFP b = (.zero, checkP (rdF b))) := Lib.hid (by unfold decFP; rw [if_neg hlen, if_neg (fun e => e HE.out), if_neg (by intro e; rcases e with e | e; exact e HM.out; exact e HL.out), if_pos h1])
            have hst := frStore w14 t FrP.zero (.slice none 0 0) (.slice none 0 0) rfl rfl fr_zero_wf (by rw [R14.has]; exact frC_size fr_zero_wf _ _)
            rw [HT.out] at hst
            have hrow : rowOf (w14.setRow w.heap.size (frC FrP.zero (.slice none 0 0) (.slice none 0 0))) w.heap.size = (frC FrP.zero (.slice none 0 0) (.slice none 0 0)) := rowOf_setRow _ _ _ (HT.out ▸ R14.row)
            have HROW := Lib.hid hrow
            clear hrow
            clear h1
            go_wp2_with fail
            have hrow := HROW.out
            refine bodyPost_rowTmp 2 3 80 w.heap.size 100 rfl rfl (by omega) (by kernel_rfl) (by kernel_rfl) (by rw [hrow]; exact frC_size fr_zero_wf _ _) rfl ?_
            exact ⟨.agg (frC FrP.zero (.slice none 0 0) (.slice none 0 0)), by rw [hrow, CK.out]; rfl, by rw [CK.out]; exact frv_zero _, below_setRow B14 (Nat.le_refl _) _⟩
        · have g3 : (((rd4 b).1.length : Int) != (3 : Int)) = true := by rw [bne_iff_ne]; omega
          have CK : Hid (decFP b = (.zero, 51)) := Lib.hid (by unfold decFP; rw [if_neg hlen, if_neg (fun e => e HE.out), if_pos (.inr h1)])
          clear h1
          go_wp2_with fail
          have hrow := HROW.out
          refine bodyPost_rowTmp 2 3 80 w.heap.size 100 rfl rfl (by omega) (by kernel_rfl) (by kernel_rfl) (by rw [hrow]; exact frC_size fr_zero_wf _ _) rfl ?_
          exact ⟨.agg (frC FrP.zero (.slice none 0 0) (.slice none 0 0)), by rw [hrow, CK.out]; rfl, by rw [CK.out]; exact frv_zero _, below_setRow B10 (Nat.le_refl _) _⟩
      · have g2 : (n64 (rd1 b).1 != (1 : Int)) = true := by
          rw [bne_iff_ne]
          intro e
          apply h1
          apply UInt64.toNat.inj
          rw [n64_def] at e
          have : ((1 : UInt64).toNat : Int) = 1 := rfl
          omega
        have CK : Hid (decFP b = (.zero, 51)) := Lib.hid (by unfold decFP; rw [if_neg hlen, if_neg (fun e => e HE.out), if_pos (.inl h1)])
        clear h1
        go_wp2_with fail
        have hrow := HROW.out
        refine bodyPost_rowTmp 2 3 80 w.heap.size 100 rfl rfl (by omega) (by kernel_rfl) (by kernel_rfl) (by rw [hrow]; exact frC_size fr_zero_wf _ _) rfl ?_
        exact ⟨.agg (frC FrP.zero (.slice none 0 0) (.slice none 0 0)), by rw [hrow, CK.out]; rfl, by rw [CK.out]; exact frv_zero _, below_setRow B10 (Nat.le_refl _) _⟩
    · have g1 : (endP (rd6 b).2 != (0 : Int)) = true := by rw [bne_iff_ne]; exact h1
      have CK : Hid (decFP b = (.zero, endP (rd6 b).2)) := Lib.hid (by unfold decFP; rw [if_neg hlen, if_pos h1])
      clear h1
      go_wp2_with fail
      have hrow := HROW.out
      refine bodyPost_rowTmp 2 3 80 w.heap.size 100 rfl rfl (by omega) (by kernel_rfl) (by kernel_rfl) (by rw [hrow]; exact frC_size fr_zero_wf _ _) rfl ?_
      exact ⟨.agg (frC FrP.zero (.slice none 0 0) (.slice none 0 0)), by rw [hrow, CK.out]; rfl, by rw [CK.out]; exact frv_zero _, below_setRow B10 (Nat.le_refl _) _⟩
end
end
end Go.Proofs.Ytifnpphkplogaaa
