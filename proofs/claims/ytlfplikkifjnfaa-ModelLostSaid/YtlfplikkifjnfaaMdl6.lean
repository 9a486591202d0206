/- Layer 26: Check: the first Event that should not be; Left: what was not fetched. -/
import Derived.Test.YtlfplikkifjnfaaMdl5
import Derived.Deep.LoopGhost
namespace Go.Proofs.Ytlfplikkifjnfaa
open Go.RowKit
structure Ev where
  d : Int
  who : Int
  code : Int
  b : List UInt8
abbrev Ev.see (e : Ev) (s : BL × BL) : Bool × (BL × BL) := seeP e.d e.who e.code e.b s
@[irreducible] def nthE (es : List Ev) (i : Nat) : Ev := es.getD i ⟨0, 0, 0, []⟩
theorem nthE_def (es : List Ev) (i : Nat) : nthE es i = es.getD i ⟨0, 0, 0, []⟩ := by unfold nthE; rfl
def stK (es : List Ev) : Nat → BL × BL
  | 0 => ([], [])
  | k + 1 => ((nthE es k).see (stK es k)).2
def okK (es : List Ev) (k : Nat) : Bool := ((nthE es k).see (stK es k)).1
theorem takeP_len (u : List UInt8) (l : BL) : (takeP u l).2.length ≤ l.length := by
  cases l with
  | nil => simp [takeP]
  | cons m r => by_cases h : m = u <;> simp [takeP, h]
theorem seeP_len (d who code : Int) (x : List UInt8) (s : BL × BL) : (seeP d who code x s).2.1.length ≤ s.1.length + 1 ∧ (seeP d who code x s).2.2.length ≤ s.2.length + 1 := by
  have h1 := takeP_len x s.1
  have h2 := takeP_len x s.2
  unfold seeP
  repeat' split
  all_goals simp
  all_goals omega
theorem stK_len (es : List Ev) : ∀ k, (stK es k).1.length ≤ k ∧ (stK es k).2.length ≤ k
  | 0 => ⟨by simp [stK], by simp [stK]⟩
  | k + 1 => by
    have h := stK_len es k
    have h2 := seeP_len (nthE es k).d (nthE es k).who (nthE es k).code (nthE es k).b (stK es k)
    show (seeP _ _ _ _ _).2.1.length ≤ k + 1 ∧ (seeP _ _ _ _ _).2.2.length ≤ k + 1
    exact ⟨by omega, by omega⟩
/-- bytes that lie below B -/
def BsB (w : World) (B : Nat) (v : Value) (l : List UInt8) : Prop := ∃ A c, v = .slice A l.length c ∧ l.length ≤ c ∧ l.length ≤ 140737488351232 ∧ Rd8 w B A l
theorem BsB.bs {w : World} {B : Nat} {v : Value} {l : List UInt8} (h : BsB w B v l) (hB : B ≤ w.heap.size) : Bs w v l := by
  obtain ⟨A, c, h1, h2, h3, h4⟩ := h
  exact ⟨A, c, h1, h2, h3, h4.more hB⟩
theorem BsB.keep {w w' : World} {B : Nat} {v : Value} {l : List UInt8} (h : BsB w B v l) (hb : Below B w w') : BsB w' B v l := by
  obtain ⟨A, c, h1, h2, h3, h4⟩ := h
  exact ⟨A, c, h1, h2, h3, h4.below hb⟩
/-- a list of Events that lies below B -/
def RdEv (w : World) (B : Nat) (A : Option Addr) (es : List Ev) : Prop := 0 < es.length → ∃ g o, A = some ⟨g, o, none⟩ ∧ g < B ∧ ∀ i, i < es.length → ∃ v, w.rangeAt g (o + i * 4) (evL (nthE es i).d (nthE es i).who (nthE es i).code v) ∧ BsB w B v (nthE es i).b
theorem RdEv.keep {w w' : World} {B : Nat} {A : Option Addr} {es : List Ev} (h : RdEv w B A es) (hb : Below B w w') : RdEv w' B A es := fun h0 => by
  obtain ⟨g, o, e, hg, hc⟩ := h h0
  refine ⟨g, o, e, hg, fun i hi => ?_⟩
  obtain ⟨v, h1, h2⟩ := hc i hi
  exact ⟨v, fun j u hu => (hb.cell (p := ⟨g, o + i * 4 + j, none⟩) hg).trans (h1 j u hu), h2.keep hb⟩
theorem RdEv.more {w : World} {B C : Nat} {A : Option Addr} {es : List Ev} (h : RdEv w B A es) (hb : B ≤ C) : RdEv w C A es := fun h0 => by
  obtain ⟨g, o, e, hg, hc⟩ := h h0
  refine ⟨g, o, e, by omega, fun i hi => ?_⟩
  obtain ⟨v, h1, A', c', h2, h3, h4, h5⟩ := hc i hi
  exact ⟨v, h1, A', c', h2, h3, h4, h5.more hb⟩
theorem RdEv.take {w : World} {B : Nat} {A : Option Addr} {es : List Ev} (h : RdEv w B A es) (k : Nat) : RdEv w B A (es.take k) := fun h0 => by
  have hl : (es.take k).length = min k es.length := List.length_take
  obtain ⟨g, o, e, hg, hc⟩ := h (by omega)
  refine ⟨g, o, e, hg, fun i hi => ?_⟩
  have : nthE (es.take k) i = nthE es i := by
    rw [nthE_def, nthE_def, List.getD_eq_getElem?_getD, List.getD_eq_getElem?_getD, List.getElem?_take, if_pos (by omega)]
  rw [this]
  exact hc i (by omega)
def SeeNot (q base : Nat) (r : Bool × (BL × BL)) (w : World) (e : Ending) (w' : World) : Prop := e = .returned (.bool (!r.1)) ∧ Qs w' q base r.2 ∧ UpdQ q base w w'
set_option maxRecDepth 100000 in
theorem check1_any (q base : Nat) (d who code : Int) (v : Value) (x : List UInt8) (s : BL × BL) (w : World) (hs : Qs w q base s) (hx : Bs w v x) (h1 : s.1.length ≤ 1000) (h2 : s.2.length ≤ 1000) :
    Calls Try.prog 14 #[.agg (evC d who code v), .pointer (some ⟨q, 0, none⟩)] w (SeeNot q base (seeP d who code x s) w) := by
  have hB : Below w.heap.size w (w.alloc (.cells (evC d who code v) 36)) := (by repeat (first | with_reducible exact Below.refl _ _ | with_reducible assumption | refine Below.drew ?_ | refine below_drewN ?_ | refine Below.alloc ?_ (by first | omega | (simp; done) | (simp; omega)) _ | refine below_setRow ?_ (by omega) _ | refine Below.setCell ?_ (by first | omega | (simp; done) | (simp; omega)) _))
  have R : RowIs (w.alloc (.cells (evC d who code v) 36)) w.heap.size (evC d who code v) := RowIs.new _ _ _
  obtain ⟨hbq, hqs⟩ := hs.lt
  have L := EvRow.load R
  have CC := see_any q base d who code v x s _ (hs.step hB) (hx.step hB) h1 h2
  obtain ⟨sr, hsr⟩ : ∃ sr, sr = seeP d who code x s := ⟨_, rfl⟩
  rw [← hsr] at CC ⊢
  have CC := Lib.hid CC
  clear hsr hs hx R h1 h2
  go_enter Try.func14, Try.ntmps14
  go_wp2_with fail
  refine CC.out.mono ?_
  rintro e w1 ⟨rfl, h1, h2⟩
  cases hr : sr.1 with
  | false =>
    have HR := Lib.hid hr
    clear hr
    go_wp2_with fail
    go_ret
    exact ⟨by rw [HR.out]; rfl, h1, UpdQ.pre hB hbq h2⟩
  | true =>
    have HR := Lib.hid hr
    clear hr
    go_wp2_with fail
    go_ret
    exact ⟨by rw [HR.out]; rfl, h1, UpdQ.pre hB hbq h2⟩
/-- what Check finds -/
def ChkVal (es : List Ev) (r : Int) : Prop := (∃ i : Nat, i < es.length ∧ r = i ∧ okK es i = false ∧ ∀ j, j < i → okK es j = true) ∨ (r = -1 ∧ ∀ j, j < es.length → okK es j = true)
def IdxRes (es : List Ev) (base : Nat) (w : World) (e : Ending) (w' : World) : Prop := (∃ r : Int, e = .returned (.int .i64 r) ∧ ChkVal es r) ∧ Below base w w'
set_option maxRecDepth 100000 in
set_option maxHeartbeats 1600000 in
theorem index_any (q base : Nat) (A : Option Addr) (c : Nat) (es : List Ev) (w : World) (hbq : base ≤ q) (hs : Qs w q base ([], [])) (hr : RdEv w base A es) (hl : es.length ≤ 1000) :
    Calls Try.prog 13 #[.slice A es.length c, .func (.func 14) #[] #[.pointer (some ⟨q, 0, none⟩)]] w (IdxRes es base w) := by
  have HRD := Lib.hid hr
  obtain ⟨m, hm⟩ : ∃ m, m = es.length := ⟨_, rfl⟩
  have HM := Lib.hid hm
  rw [← hm] at hl ⊢
  clear hm hr
  go_enter Try.func13, Try.ntmps13
  go_wp2_with fail
  go_loopw [5, 8] (fun _ i wr => ∃ k : Nat, i = .int .i64 k ∧ k ≤ m ∧ Below base w wr ∧ Qs wr q base (stK es k) ∧ ∀ j, j < k → okK es j = true) (fun _ i _ => m - (intOf i).toNat)
  case atStart => exact ⟨0, rfl, by omega, Below.refl _ _, hs, fun j hj => absurd hj (by omega)⟩
  case round =>
    clear hs
    obtain ⟨k, rfl, hk, hB, hs, hall⟩ := hrel
    have HA := Lib.hid hall
    clear hall
    by_cases hlt : k < m
    · have hlt' : k < es.length := by rw [← HM.out]; exact hlt
      obtain ⟨g, o, rfl, hg, hel⟩ := (HRD.out.keep hB) (by omega)
      obtain ⟨v, hat, hbv⟩ := hel k hlt'
      have hL := ev_load hat
      obtain ⟨hq1, hq2⟩ := hs.lt
      have hbs := hbv.bs (by omega)
      obtain ⟨hl1, hl2⟩ := stK_len es k
      have cc := check1_any q base (nthE es k).d (nthE es k).who (nthE es k).code v (nthE es k).b (stK es k) wr hs hbs (by omega) (by omega)
      obtain ⟨ev, hev⟩ : ∃ ev, ev = nthE es k := ⟨_, rfl⟩
      have hnx : (seeP ev.d ev.who ev.code ev.b (stK es k)).2 = stK es (k + 1) := by rw [hev]; rfl
      have hok : (seeP ev.d ev.who ev.code ev.b (stK es k)).1 = okK es k := by rw [hev]; rfl
      rw [← hev] at cc hL
      unfold SeeNot at cc
      rw [hnx, hok] at cc
      have CC := Lib.hid cc
      have hk0 : (0 : Int) ≤ (k : Int) := by omega
      have hk1 : (k : Int) < m := by omega
      clear hev hnx hok cc hs hbs hbv hat hel
      go_wp2_with fail
      refine CC.out.mono ?_
      rintro e w1 ⟨rfl, hs1, hb1⟩
      have hB1 := hB.trans (hb1.below hbq)
      cases hx : okK es k with
      | false =>
        have HX := Lib.hid hx
        clear hx
        go_wp2_with fail
        go_ret
        exact ⟨⟨_, rfl, .inl ⟨k, hlt', rfl, HX.out, HA.out⟩⟩, hB1⟩
      | true =>
        have HX := Lib.hid hx
        clear hx
        go_wp2_with fail
        exact ⟨⟨k + 1, by go_num, by omega, hB1, hs1, fun j hj => by
          rcases Nat.lt_or_ge j k with hjk | hjk
          · exact HA.out j hjk
          · obtain rfl : j = k := by omega
            exact HX.out⟩, by simp [intOf]; omega⟩
    · have ek : k = m := by omega
      subst ek
      go_wp2_with fail
      go_ret
      exact ⟨⟨_, rfl, .inr ⟨rfl, by rw [← HM.out]; exact HA.out⟩⟩, hB⟩
theorem qZ : #[Value.slice none 0 0, .int .i64 0, .slice none 0 0, .int .i64 0] = qC (.slice none 0 0) 0 (.slice none 0 0) 0 := by rw [qC_def]
set_option maxRecDepth 100000 in
theorem check_any (A : Option Addr) (c : Nat) (es : List Ev) (w : World) (hr : RdEv w w.heap.size A es) (hl : es.length ≤ 1000) :
    Calls Try.prog 7 #[.slice A es.length c] w (IdxRes es w.heap.size w) := by
  have hB : Below w.heap.size w (w.alloc (.cells (qC (.slice none 0 0) 0 (.slice none 0 0) 0) 31)) := (by repeat (first | with_reducible exact Below.refl _ _ | with_reducible assumption | refine Below.drew ?_ | refine below_drewN ?_ | refine Below.alloc ?_ (by first | omega | (simp; done) | (simp; omega)) _ | refine below_setRow ?_ (by omega) _ | refine Below.setCell ?_ (by first | omega | (simp; done) | (simp; omega)) _))
  have R : RowIs (w.alloc (.cells (qC (.slice none 0 0) 0 (.slice none 0 0) 0) 31)) w.heap.size (qC (.slice none 0 0) 0 (.slice none 0 0) 0) := RowIs.new _ _ _
  have cc := Lib.hid (index_any w.heap.size w.heap.size A c es _ (Nat.le_refl _) (Qs.new R hB.size) (hr.keep hB) hl)
  have HZ := qZ
  clear hr R
  go_enter Try.func7, Try.ntmps7
  go_wp2_with fail
  refine cc.out.mono ?_
  rintro e w1 ⟨⟨r, rfl, hv⟩, hb⟩
  have HV := Lib.hid hv
  clear hv
  go_wp2_with fail
  go_ret
  exact ⟨⟨r, rfl, HV.out⟩, hB.trans hb⟩
end Go.Proofs.Ytlfplikkifjnfaa
