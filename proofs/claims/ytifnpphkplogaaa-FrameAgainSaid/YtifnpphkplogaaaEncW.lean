/- Layer 9: ways, and which one a Kind has. | Layer 9: items in memory; are all of a Kind that is one? | Layer 9: Encode, the program's. -/
import Derived.Test.YtifnpphkplogaaaRInW
import Derived.Test.YtifnpphkplogaaaLexT
namespace Go.Proofs.Ytifnpphkplogaaa
section
open Go.RowKit
def fnV (k : Nat) : Value := .func (.func k) #[] #[]
def waysC : Array Value := #[fnV 65, fnV 86, fnV 87, fnV 88, fnV 89, fnV 90, fnV 91, fnV 92, fnV 93]
theorem ways_any (w : World) : Calls Try.prog 58 #[] w fun e w' => e = .returned (.slice (some ⟨w.heap.size, 0, none⟩) 3 3) ∧ w' = w.alloc (.cells waysC 104) := by
  go_enter Try.func58, Try.ntmps58
  go_wp2_with fail
  go_ret
  exact ⟨rfl, rfl⟩
/-- the way's own question -/
def isWay (i : Nat) (k : Int) : Bool := if i = 0 then sizeOk k else if i = 1 then k == 9 else k == 32
def wayV (i : Nat) : Value := .agg #[waysC.getD (3 * i) (.bool false), waysC.getD (3 * i + 1) (.bool false), waysC.getD (3 * i + 2) (.bool false)]
def BoolTo (b : Bool) (w : World) (e : Ending) (w' : World) : Prop := e = .returned (.bool b) ∧ Below w.heap.size w w'
theorem is9_any (k : Int) (w : World) : Calls Try.prog 88 #[.int .i64 k] w (BoolTo (k == 9) w) := by
  go_enter Try.func88, Try.ntmps88
  go_wp2_with fail
  go_ret
  exact ⟨rfl, Below.refl _ _⟩
theorem is32_any (k : Int) (w : World) : Calls Try.prog 91 #[.int .i64 k] w (BoolTo (k == 32) w) := by
  go_enter Try.func91, Try.ntmps91
  go_wp2_with fail
  go_ret
  exact ⟨rfl, Below.refl _ _⟩
set_option maxRecDepth 100000 in
theorem find1_any (i : Nat) (hi : i < 3) (k : Int) (kc : Nat) (w : World) (hk : RowIs w kc #[.int .i64 k]) : Calls Try.prog 96 #[wayV i, .pointer (some ⟨kc, 0, none⟩)] w (BoolTo (isWay i k) w) := by
  have hc := hk.cell0
  have hl := hk.lt
  have h3 : i = 0 ∨ i = 1 ∨ i = 2 := by omega
  rcases h3 with rfl | rfl | rfl
  · have hq : Below w.heap.size w (w.alloc (.cells #[fnV 65, fnV 86, fnV 87] 104)) := (by repeat (first | with_reducible exact Below.refl _ _ | with_reducible assumption | refine Below.drew ?_ | refine below_drewN ?_ | refine Below.alloc ?_ (by first | omega | (simp; done) | (simp; omega)) _ | refine below_setRow ?_ (by omega) _ | refine Below.setCell ?_ (by first | omega | (simp; done) | (simp; omega)) _))
    unfold wayV waysC
    unfold fnV at hq ⊢
    go_enter Try.func96, Try.ntmps96
    go_wp2_with fail
    refine (number_any k _).mono ?_
    rintro e w1 ⟨rfl, rfl⟩
    go_wp2_with fail
    go_ret
    exact ⟨rfl, hq⟩
  · have hq : Below w.heap.size w (w.alloc (.cells #[fnV 88, fnV 89, fnV 90] 104)) := (by repeat (first | with_reducible exact Below.refl _ _ | with_reducible assumption | refine Below.drew ?_ | refine below_drewN ?_ | refine Below.alloc ?_ (by first | omega | (simp; done) | (simp; omega)) _ | refine below_setRow ?_ (by omega) _ | refine Below.setCell ?_ (by first | omega | (simp; done) | (simp; omega)) _))
    unfold wayV waysC
    unfold fnV at hq ⊢
    go_enter Try.func96, Try.ntmps96
    go_wp2_with fail
    refine (is9_any k _).mono ?_
    rintro e w1 ⟨rfl, hb⟩
    go_wp2_with fail
    go_ret
    exact ⟨rfl, hq.trans (hb.mono hq.size)⟩
  · have hq : Below w.heap.size w (w.alloc (.cells #[fnV 91, fnV 92, fnV 93] 104)) := (by repeat (first | with_reducible exact Below.refl _ _ | with_reducible assumption | refine Below.drew ?_ | refine below_drewN ?_ | refine Below.alloc ?_ (by first | omega | (simp; done) | (simp; omega)) _ | refine below_setRow ?_ (by omega) _ | refine Below.setCell ?_ (by first | omega | (simp; done) | (simp; omega)) _))
    unfold wayV waysC
    unfold fnV at hq ⊢
    go_enter Try.func96, Try.ntmps96
    go_wp2_with fail
    refine (is32_any k _).mono ?_
    rintro e w1 ⟨rfl, hb⟩
    go_wp2_with fail
    go_ret
    exact ⟨rfl, hq.trans (hb.mono hq.size)⟩
def findIx (k : Int) : Int := if isWay 0 k then 0 else if isWay 1 k then 1 else if isWay 2 k then 2 else -1
def IntTo (n : Int) (w : World) (e : Ending) (w' : World) : Prop := e = .returned (.int .i64 n) ∧ Below w.heap.size w w'
set_option maxRecDepth 100000 in
set_option maxHeartbeats 1600000 in
theorem indexW_any (g kc : Nat) (k : Int) (w : World) (hg : RowIs w g waysC) (hk : RowIs w kc #[.int .i64 k]) :
    Calls Try.prog 95 #[.slice (some ⟨g, 0, none⟩) 3 3, .func (.func 96) #[] #[.pointer (some ⟨kc, 0, none⟩)]] w (IntTo (findIx k) w) := by
  have F := Lib.hid (fun i hi (W : World) (h : RowIs W kc #[.int .i64 k]) => find1_any i hi k kc W h)
  go_enter Try.func95, Try.ntmps95
  go_wp2_with fail
  go_loopw [8] (fun i wr => ∃ j : Nat, j ≤ 3 ∧ i = .int .i64 j ∧ Hid (∀ x, x < j → isWay x k = false) ∧ Below w.heap.size w wr) (fun i _ => 3 - (intOf i).toNat)
  case atStart => exact ⟨0, by omega, rfl, Lib.hid (fun x hx => absurd hx (by omega)), Below.refl _ _⟩
  case round =>
    obtain ⟨j, hj, rfl, hno, hb⟩ := hrel
    have G := hg.step hb
    have Kc := hk.step hb
    by_cases hlt : j < 3
    · have h3 : j = 0 ∨ j = 1 ∨ j = 2 := by omega
      have cells : ∀ x v, waysC[x]? = some v → wr.cell? ⟨g, x, none⟩ = some v := fun x v hv => by
        obtain ⟨t, ht⟩ := G.row.heap
        rw [G.has] at ht
        rw [cell_of_row wr g x _ t (0, 0) ht]; exact hv
      rcases h3 with rfl | rfl | rfl
      · have q0 := cells 0 _ rfl; have q1 := cells 1 _ rfl; have q2 := cells 2 _ rfl
        have K := F.out 0 (by omega) _ Kc
        clear cells
        cases hw : isWay 0 k with
        | true =>
          have hix : findIx k = 0 := by unfold findIx; rw [if_pos hw]
          rw [hw] at K
          clear hw
          go_wp2_with fail
          refine K.mono ?_
          rintro e w1 ⟨rfl, hb1⟩
          go_wp2_with fail
          go_ret
          exact ⟨by rw [hix]; rfl, hb.trans (hb1.mono hb.size)⟩
        | false =>
          rw [hw] at K
          have HW := Lib.hid hw
          clear hw
          go_wp2_with fail
          refine K.mono ?_
          rintro e w1 ⟨rfl, hb1⟩
          go_wp2_with fail
          exact ⟨⟨1, by omega, rfl, Lib.hid (fun x hx => by
            rcases Nat.lt_or_ge x 0 with h | h
            · exact hno.out x h
            · obtain rfl : x = 0 := by omega
              exact HW.out), hb.trans (hb1.mono hb.size)⟩, by simp [intOf]⟩
      · have q0 := cells 3 _ rfl; have q1 := cells 4 _ rfl; have q2 := cells 5 _ rfl
        have K := F.out 1 (by omega) _ Kc
        clear cells
        cases hw : isWay 1 k with
        | true =>
          have hix : findIx k = 1 := by unfold findIx; rw [if_neg (by rw [hno.out 0 (by omega)]; simp)]; rw [if_pos hw]
          rw [hw] at K
          clear hw
          go_wp2_with fail
          refine K.mono ?_
          rintro e w1 ⟨rfl, hb1⟩
          go_wp2_with fail
          go_ret
          exact ⟨by rw [hix]; rfl, hb.trans (hb1.mono hb.size)⟩
        | false =>
          rw [hw] at K
          have HW := Lib.hid hw
          clear hw
          go_wp2_with fail
          refine K.mono ?_
          rintro e w1 ⟨rfl, hb1⟩
          go_wp2_with fail
          exact ⟨⟨2, by omega, rfl, Lib.hid (fun x hx => by
            rcases Nat.lt_or_ge x 1 with h | h
            · exact hno.out x h
            · obtain rfl : x = 1 := by omega
              exact HW.out), hb.trans (hb1.mono hb.size)⟩, by simp [intOf]⟩
      · have q0 := cells 6 _ rfl; have q1 := cells 7 _ rfl; have q2 := cells 8 _ rfl
        have K := F.out 2 (by omega) _ Kc
        clear cells
        cases hw : isWay 2 k with
        | true =>
          have hix : findIx k = 2 := by unfold findIx; rw [if_neg (by rw [hno.out 0 (by omega)]; simp)]; rw [if_neg (by rw [hno.out 1 (by omega)]; simp)]; rw [if_pos hw]
          rw [hw] at K
          clear hw
          go_wp2_with fail
          refine K.mono ?_
          rintro e w1 ⟨rfl, hb1⟩
          go_wp2_with fail
          go_ret
          exact ⟨by rw [hix]; rfl, hb.trans (hb1.mono hb.size)⟩
        | false =>
          rw [hw] at K
          have HW := Lib.hid hw
          clear hw
          go_wp2_with fail
          refine K.mono ?_
          rintro e w1 ⟨rfl, hb1⟩
          go_wp2_with fail
          exact ⟨⟨3, by omega, rfl, Lib.hid (fun x hx => by
            rcases Nat.lt_or_ge x 2 with h | h
            · exact hno.out x h
            · obtain rfl : x = 2 := by omega
              exact HW.out), hb.trans (hb1.mono hb.size)⟩, by simp [intOf]⟩
    · obtain rfl : j = 3 := by omega
      have hix : findIx k = -1 := by unfold findIx; rw [hno.out 0 (by omega), hno.out 1 (by omega), hno.out 2 (by omega)]; rfl
      go_wp2_with fail
      go_ret
      exact ⟨by rw [hix]; rfl, hb⟩
theorem find_any (g : Nat) (k : Int) (w : World) (hg : RowIs w g waysC) : Calls Try.prog 61 #[.slice (some ⟨g, 0, none⟩) 3 3, .int .i64 k] w (IntTo (findIx k) w) := by
  have hq : Below w.heap.size w (w.alloc (.cells #[.int .i64 k] 3)) := (by repeat (first | with_reducible exact Below.refl _ _ | with_reducible assumption | refine Below.drew ?_ | refine below_drewN ?_ | refine Below.alloc ?_ (by first | omega | (simp; done) | (simp; omega)) _ | refine below_setRow ?_ (by omega) _ | refine Below.setCell ?_ (by first | omega | (simp; done) | (simp; omega)) _))
  have hk : RowIs (w.alloc (.cells #[.int .i64 k] 3)) w.heap.size #[.int .i64 k] := RowIs.new _ _ _
  have hg2 := hg.step hq
  go_enter Try.func61, Try.ntmps61
  go_wp2_with fail
  refine (indexW_any g w.heap.size k _ hg2 hk).mono ?_
  rintro e w1 ⟨rfl, hb1⟩
  go_wp2_with fail
  go_ret
  exact ⟨rfl, hq.trans (hb1.mono hq.size)⟩
theorem findIx_neg (k : Int) : decide (findIx k < 0) = !kindOk k := by
  unfold findIx isWay kindOk
  by_cases h0 : sizeOk k = true
  · simp [h0]
  · by_cases h9 : k = 9
    · subst h9; simp [h0]
    · by_cases h32 : k = 32
      · subst h32; simp [h0]
      · simp [h0, h9, h32]
end
section
open Go.RowKit
abbrev itC (x : ItP) (vb vl : Value) : Array Value := #[.int .i64 x.kind, .int .u64 (n64 x.n), vb, vl]
@[irreducible] def nthI (xs : List ItP) (i : Nat) : ItP := xs.getD i ⟨0, 0, [], []⟩
theorem nthI_def (xs : List ItP) (i : Nat) : nthI xs i = xs.getD i ⟨0, 0, [], []⟩ := by unfold nthI; rfl
theorem nthI_mem {xs : List ItP} {i : Nat} (h : i < xs.length) : nthI xs i ∈ xs := by
  rw [nthI_def, List.getD_eq_getElem?_getD, List.getElem?_eq_getElem h]; exact List.getElem_mem h
theorem nthI_get {xs : List ItP} {i : Nat} (h : i < xs.length) : xs[i] = nthI xs i := by
  rw [nthI_def, List.getD_eq_getElem?_getD, List.getElem?_eq_getElem h]; rfl
structure ItAt (w : World) (g o : Nat) (x : ItP) (vb vl : Value) : Prop where
  c0 : w.cell? ⟨g, o, none⟩ = some (.int .i64 x.kind)
  c1 : w.cell? ⟨g, o + 1, none⟩ = some (.int .u64 (n64 x.n))
  c2 : w.cell? ⟨g, o + 2, none⟩ = some vb
  c3 : w.cell? ⟨g, o + 3, none⟩ = some vl
  b : Bs w vb x.b
  l : KsL w vl x.l
  k : itKeys x
theorem ItAt.step {w w' : World} {g o : Nat} {x : ItP} {vb vl : Value} (h : ItAt w g o x vb vl) (hg : g < w.heap.size) (hb : Below w.heap.size w w') : ItAt w' g o x vb vl :=
  ⟨(hb.cell (p := ⟨g, o, none⟩) hg).trans h.c0, (hb.cell (p := ⟨g, o + 1, none⟩) hg).trans h.c1, (hb.cell (p := ⟨g, o + 2, none⟩) hg).trans h.c2, (hb.cell (p := ⟨g, o + 3, none⟩) hg).trans h.c3, h.b.step hb, h.l.step hb, h.k⟩
/-- a slice of items that is read -/
def ItsL (w : World) (v : Value) (xs : List ItP) : Prop := ∃ A c, v = .slice A xs.length c ∧ xs.length ≤ c ∧ (0 < xs.length → ∃ g o, A = some ⟨g, o, none⟩ ∧ g < w.heap.size ∧ ∀ i, i < xs.length → ∃ vb vl, ItAt w g (o + i * 4) (nthI xs i) vb vl)
theorem ItsL.nil (w : World) : ItsL w (.slice none 0 0) [] := ⟨none, 0, rfl, Nat.le_refl _, fun h => absurd h (by simp)⟩
theorem ItsL.step {w w' : World} {v : Value} {xs : List ItP} (h : ItsL w v xs) (hb : Below w.heap.size w w') : ItsL w' v xs := by
  obtain ⟨A, c, h1, h2, h3⟩ := h
  refine ⟨A, c, h1, h2, fun h0 => ?_⟩
  obtain ⟨g, o, h4, h5, h6⟩ := h3 h0
  exact ⟨g, o, h4, Nat.lt_of_lt_of_le h5 hb.size, fun i hi => by
    obtain ⟨vb, vl, h⟩ := h6 i hi
    exact ⟨vb, vl, h.step h5 hb⟩⟩
/-- where the ways lie: in a cell -/
structure WaysAt (w : World) (ca g : Nat) : Prop where
  cell : RowIs w ca #[.slice (some ⟨g, 0, none⟩) 3 3]
  row : RowIs w g waysC
theorem WaysAt.step {w w' : World} {ca g : Nat} (h : WaysAt w ca g) (hb : Below w.heap.size w w') : WaysAt w' ca g := ⟨h.cell.step hb, h.row.step hb⟩
theorem enc1_any (x : ItP) (vb vl : Value) (ca g : Nat) (w : World) (h : WaysAt w ca g) (hvb : ∃ A n c, vb = .slice A n c) (hvl : ∃ A n c, vl = .slice A n c) :
    Calls Try.prog 60 #[.agg (itC x vb vl), .pointer (some ⟨ca, 0, none⟩)] w (BoolTo (!kindOk x.kind) w) := by
  obtain ⟨A1, n1, c1, rfl⟩ := hvb
  obtain ⟨A2, n2, c2, rfl⟩ := hvl
  have hc := h.cell.cell0
  have hl := h.cell.lt
  have hq : Below w.heap.size w (w.alloc (.cells (itC x (.slice A1 n1 c1) (.slice A2 n2 c2)) 43)) := (by repeat (first | with_reducible exact Below.refl _ _ | with_reducible assumption | refine Below.drew ?_ | refine below_drewN ?_ | refine Below.alloc ?_ (by first | omega | (simp; done) | (simp; omega)) _ | refine below_setRow ?_ (by omega) _ | refine Below.setCell ?_ (by first | omega | (simp; done) | (simp; omega)) _))
  have hr := h.row.step hq
  rw [← findIx_neg]
  have FA := Lib.hid (find_any g x.kind _ hr)
  go_enter Try.func60, Try.ntmps60
  go_wp2_with fail
  refine FA.out.mono ?_
  rintro e w1 ⟨rfl, hb1⟩
  go_wp2_with fail
  go_ret
  exact ⟨rfl, hq.trans (hb1.mono hq.size)⟩
def IxTo (p : Bool) (w : World) (e : Ending) (w' : World) : Prop := ∃ i : Int, e = .returned (.int .i64 i) ∧ decide (0 ≤ i) = p ∧ Below w.heap.size w w'
theorem all_not {xs : List ItP} {k : Nat} (hk : k < xs.length) (h : kindOk (nthI xs k).kind = false) : xs.all (fun x => kindOk x.kind) = false := by
  rw [List.all_eq_false]; exact ⟨_, nthI_mem hk, by simp [h]⟩
theorem all_yes {xs : List ItP} (h : ∀ k, k < xs.length → kindOk (nthI xs k).kind = true) : xs.all (fun x => kindOk x.kind) = true := by
  rw [List.all_eq_true]
  intro x hx
  obtain ⟨i, hi, rfl⟩ := List.getElem_of_mem hx
  rw [nthI_get hi]; exact h i hi
set_option maxRecDepth 100000 in
set_option maxHeartbeats 1600000 in
theorem indexI_any (v : Value) (xs : List ItP) (ca gw : Nat) (w : World) (h : ItsL w v xs) (hn : xs.length ≤ 1000000) (hw : WaysAt w ca gw) :
    Calls Try.prog 94 #[v, .func (.func 60) #[] #[.pointer (some ⟨ca, 0, none⟩)]] w (IxTo (!xs.all (fun x => kindOk x.kind)) w) := by
  obtain ⟨A, c, rfl, hc, hel⟩ := h
  have HEL := Lib.hid hel
  obtain ⟨n, hN⟩ : ∃ n, n = xs.length := ⟨_, rfl⟩
  have HN := Lib.hid hN
  rw [← hN] at hc hn ⊢
  clear hel hN
  go_enter Try.func94, Try.ntmps94
  go_wp2_with fail
  go_loopw [8] (fun i wr => ∃ k : Nat, k ≤ n ∧ i = .int .i64 k ∧ Hid (∀ j, j < k → kindOk (nthI xs j).kind = true) ∧ Below w.heap.size w wr) (fun i _ => n - (intOf i).toNat)
  case atStart => exact ⟨0, by omega, rfl, Lib.hid (fun x hx => absurd hx (by omega)), Below.refl _ _⟩
  case round =>
    obtain ⟨k, hk, rfl, hno, hb⟩ := hrel
    by_cases hlt : k < n
    · have hlt' : k < xs.length := by rw [← HN.out]; exact hlt
      obtain ⟨g, o, rfl, hg, hit⟩ := HEL.out (by omega)
      obtain ⟨vb, vl, it⟩ := hit k hlt'
      have it2 := it.step hg hb
      obtain ⟨q0, q1, q2, q3, hvb, hvl, -⟩ := it2
      have hsb : ∃ A n c, vb = .slice A n c := by obtain ⟨A, c, e, _⟩ := hvb; exact ⟨_, _, _, e⟩
      have hsl : ∃ A n c, vl = .slice A n c := by obtain ⟨A, c, e, _⟩ := hvl; exact ⟨_, _, _, e⟩
      have K := enc1_any (nthI xs k) vb vl ca gw _ (hw.step hb) hsb hsl
      have hk0 : (0 : Int) ≤ (k : Int) := by omega
      have hk1 : (k : Int) < (n : Int) := by omega
      obtain ⟨x, hx⟩ : ∃ x, x = nthI xs k := ⟨_, rfl⟩
      rw [← hx] at K q0 q1
      have HX := Lib.hid hx
      clear it hit hx hvb hvl
      cases hw' : kindOk x.kind with
      | true =>
        rw [hw'] at K
        have HW := Lib.hid hw'
        clear hw'
        go_wp2_with fail
        refine K.mono ?_
        rintro e w1 ⟨rfl, hb1⟩
        go_wp2_with fail
        exact ⟨⟨k + 1, by omega, by go_num, Lib.hid (fun j hj => by
          rcases Nat.lt_or_ge j k with h | h
          · exact hno.out j h
          · obtain rfl : j = k := by omega
            rw [← HX.out]; exact HW.out), hb.trans (hb1.mono hb.size)⟩, by simp [intOf]; omega⟩
      | false =>
        have hall := all_not hlt' (by rw [← HX.out]; exact hw')
        rw [hw'] at K
        have HA := Lib.hid hall
        clear hw' hall
        go_wp2_with fail
        refine K.mono ?_
        rintro e w1 ⟨rfl, hb1⟩
        go_wp2_with fail
        go_ret
        exact ⟨k, rfl, by rw [HA.out]; simp, hb.trans (hb1.mono hb.size)⟩
    · have e : k = n := by omega
      have hall := all_yes (xs := xs) (fun j hj => hno.out j (by rw [e, HN.out]; exact hj))
      subst e
      have HA := Lib.hid hall
      clear hall
      go_wp2_with fail
      go_ret
      exact ⟨-1, rfl, by rw [HA.out]; rfl, hb⟩
theorem containsI_any (v : Value) (xs : List ItP) (ca gw : Nat) (w : World) (h : ItsL w v xs) (hn : xs.length ≤ 1000000) (hw : WaysAt w ca gw) :
    Calls Try.prog 59 #[v, .func (.func 60) #[] #[.pointer (some ⟨ca, 0, none⟩)]] w (BoolTo (!xs.all (fun x => kindOk x.kind)) w) := by
  have K := Lib.hid (indexI_any v xs ca gw w h hn hw)
  obtain ⟨p, hp⟩ : ∃ p, p = !xs.all (fun x => kindOk x.kind) := ⟨_, rfl⟩
  rw [← hp] at K ⊢
  clear hp
  go_enter Try.func59, Try.ntmps59
  go_wp2_with fail
  refine K.out.mono ?_
  rintro e w1 ⟨i, rfl, hi, hb1⟩
  go_wp2_with fail
  go_ret
  exact ⟨by rw [← hi]; rfl, hb1⟩
end
section
open Go.RowKit
attribute [local go_sem] fnV
def IsSlice (v : Value) : Prop := ∃ A n c, v = .slice A n c
theorem Bs.isSlice {w : World} {v : Value} {l : List UInt8} (h : Bs w v l) : IsSlice v := by obtain ⟨A, c, e, _⟩ := h; exact ⟨_, _, _, e⟩
theorem KsL.isSlice {w : World} {v : Value} {l : BLs} (h : KsL w v l) : IsSlice v := by obtain ⟨A, c, e, _⟩ := h; exact ⟨_, _, _, e⟩
theorem putW0_any (g : Nat) (o : OutP) (x : ItP) (vb vl : Value) (w : World) (h : OutIs w g o) (hvb : IsSlice vb) (hvl : IsSlice vl) (hsz : o.b.length ≤ 900000) :
    Calls Try.prog 86 #[.pointer (some ⟨g, 0, none⟩), .agg (itC x vb vl)] w (OutTo g (onumP o x.n x.kind) w) := by
  obtain ⟨A1, n1, c1, rfl⟩ := hvb
  obtain ⟨A2, n2, c2, rfl⟩ := hvl
  have hq : Below w.heap.size w (w.alloc (.cells (itC x (.slice A1 n1 c1) (.slice A2 n2 c2)) 43)) := (by repeat (first | with_reducible exact Below.refl _ _ | with_reducible assumption | refine Below.drew ?_ | refine below_drewN ?_ | refine Below.alloc ?_ (by first | omega | (simp; done) | (simp; omega)) _ | refine below_setRow ?_ (by omega) _ | refine Below.setCell ?_ (by first | omega | (simp; done) | (simp; omega)) _))
  have F := Lib.hid (outnum_any g o x.n x.kind _ (h.step hq) hsz)
  go_enter Try.func86, Try.ntmps86
  go_wp2_with fail
  refine F.out.mono ?_
  rintro e w1 ⟨rfl, ho, hu⟩
  go_wp2_with fail
  go_end0
  exact ⟨rfl, ho, (Upd.of hq).trans hu⟩
theorem putW1_any (g : Nat) (o : OutP) (x : ItP) (vb vl : Value) (w : World) (h : OutIs w g o) (hvb : Bs w vb x.b) (hvl : IsSlice vl) (hsz : o.b.length + x.b.length ≤ 900000) :
    Calls Try.prog 89 #[.pointer (some ⟨g, 0, none⟩), .agg (itC x vb vl)] w (OutTo g (obytesP o x.b) w) := by
  have HV := Lib.hid hvb
  obtain ⟨A1, n1, c1, rfl⟩ := hvb.isSlice
  obtain ⟨A2, n2, c2, rfl⟩ := hvl
  have hq : Below w.heap.size w (w.alloc (.cells (itC x (.slice A1 n1 c1) (.slice A2 n2 c2)) 43)) := (by repeat (first | with_reducible exact Below.refl _ _ | with_reducible assumption | refine Below.drew ?_ | refine below_drewN ?_ | refine Below.alloc ?_ (by first | omega | (simp; done) | (simp; omega)) _ | refine below_setRow ?_ (by omega) _ | refine Below.setCell ?_ (by first | omega | (simp; done) | (simp; omega)) _))
  have F := Lib.hid (outbytes_any g o _ x.b _ (h.step hq) (HV.out.step hq) hsz)
  clear hvb
  go_enter Try.func89, Try.ntmps89
  go_wp2_with fail
  refine F.out.mono ?_
  rintro e w1 ⟨rfl, ho, hu⟩
  go_wp2_with fail
  go_end0
  exact ⟨rfl, ho, (Upd.of hq).trans hu⟩
theorem putW2_any (g : Nat) (o : OutP) (x : ItP) (vb vl : Value) (w : World) (h : OutIs w g o) (hvb : IsSlice vb) (hvl : KsL w vl x.l) (hk : itKeys x) (hn : x.l.length ≤ 1000) (hsz : o.b.length ≤ 500000) :
    Calls Try.prog 92 #[.pointer (some ⟨g, 0, none⟩), .agg (itC x vb vl)] w (OutTo g (okeysP o x.l) w) := by
  have HV := Lib.hid hvl
  obtain ⟨A1, n1, c1, rfl⟩ := hvb
  obtain ⟨A2, n2, c2, rfl⟩ := hvl.isSlice
  have hq : Below w.heap.size w (w.alloc (.cells (itC x (.slice A1 n1 c1) (.slice A2 n2 c2)) 43)) := (by repeat (first | with_reducible exact Below.refl _ _ | with_reducible assumption | refine Below.drew ?_ | refine below_drewN ?_ | refine Below.alloc ?_ (by first | omega | (simp; done) | (simp; omega)) _ | refine below_setRow ?_ (by omega) _ | refine Below.setCell ?_ (by first | omega | (simp; done) | (simp; omega)) _))
  have F := Lib.hid (outkeys_any g o _ x.l _ (h.step hq) (HV.out.step hq) hk hn hsz)
  clear hvl
  go_enter Try.func92, Try.ntmps92
  go_wp2_with fail
  refine F.out.mono ?_
  rintro e w1 ⟨rfl, ho, hu⟩
  go_wp2_with fail
  go_end0
  exact ⟨rfl, ho, (Upd.of hq).trans hu⟩
/-- what the loads of a round see -/
def EncS (ca gw xr fo : Nat) (fv : Value) (k : Int) (n : UInt64) (vb vl : Value) (w : World) : Prop :=
  w.cell? ⟨ca, 0, none⟩ = some (.slice (some ⟨gw, 0, none⟩) 3 3) ∧ w.cell? ⟨gw, fo, none⟩ = some fv ∧ w.cell? ⟨xr, 0, none⟩ = some (.int .i64 k) ∧ w.cell? ⟨xr, 1, none⟩ = some (.int .u64 (n64 n)) ∧ w.cell? ⟨xr, 2, none⟩ = some vb ∧ w.cell? ⟨xr, 3, none⟩ = some vl
theorem EncS.step {ca gw xr fo : Nat} {fv : Value} {k : Int} {n : UInt64} {vb vl : Value} {w w' : World} (h : EncS ca gw xr fo fv k n vb vl w) (hb : Below w.heap.size w w') (h1 : ca < w.heap.size) (h2 : gw < w.heap.size) (h3 : xr < w.heap.size) : EncS ca gw xr fo fv k n vb vl w' := by
  obtain ⟨a, b, c, d, e, f⟩ := h
  exact ⟨(hb.cell (p := ⟨ca, 0, none⟩) h1).trans a, (hb.cell (p := ⟨gw, fo, none⟩) h2).trans b, (hb.cell (p := ⟨xr, 0, none⟩) h3).trans c, (hb.cell (p := ⟨xr, 1, none⟩) h3).trans d, (hb.cell (p := ⟨xr, 2, none⟩) h3).trans e, (hb.cell (p := ⟨xr, 3, none⟩) h3).trans f⟩
def itSmall (x : ItP) : Prop := x.b.length ≤ 5000 ∧ x.l.length ≤ 120
theorem putIt_len (o : OutP) (x : ItP) (hs : itSmall x) (hk : itKeys x) : (putIt o x).b.length ≤ o.b.length + 5002 := by
  obtain ⟨h1, h2⟩ := hs
  unfold putIt obytesP okeysP onumP putP
  have hf := flat32 x.l hk
  have hl := highX_length x.n x.kind
  have l1 := len2 x.b.length
  have l2 := len2 x.l.length
  split
  · split
    · split <;> simp <;> omega
    · omega
  · split
    · split
      · split <;> simp [-List.length_flatten] <;> omega
      · omega
    · split
      · split <;> simp <;> omega
      · omega
def EncTo (xs : List ItP) (w : World) (e : Ending) (w' : World) : Prop := ∃ u, e = .returned (.tuple #[u, .int .i64 (encP xs).2]) ∧ Bs w' u (encP xs).1 ∧ Below w.heap.size w w'
/-- the first k items, put -/
def encK (xs : List ItP) : Nat → OutP
  | 0 => ⟨[], 0⟩
  | k + 1 => putIt (encK xs k) (nthI xs k)
theorem encK_out (xs : List ItP) : ∀ (k : Nat), k ≤ xs.length → encOut (xs.take k) ⟨[], 0⟩ = encK xs k
  | 0, _ => by simp [encOut, encK]
  | k + 1, h => by
    have app : ∀ (l : List ItP) (y : ItP) (o : OutP), encOut (l ++ [y]) o = putIt (encOut l o) y := by
      intro l y
      induction l with
      | nil => intro o; rfl
      | cons a r ih => intro o; exact ih _
    rw [List.take_add_one, List.getElem?_eq_getElem (by omega), Option.toList_some, app, encK_out xs k (by omega), encK, nthI_get (by omega)]
theorem encK_len (xs : List ItP) (hs : ∀ x ∈ xs, itSmall x ∧ itKeys x) : ∀ k, k ≤ xs.length → (encK xs k).b.length ≤ 5002 * k
  | 0, _ => by simp [encK]
  | k + 1, h => by
    have := encK_len xs hs k (by omega)
    have h2 := hs _ (nthI_mem (show k < xs.length by omega))
    have h3 := putIt_len (encK xs k) (nthI xs k) h2.1 h2.2
    rw [encK]; omega
set_option maxRecDepth 100000 in
set_option maxHeartbeats 6400000 in
theorem encode_any (v : Value) (xs : List ItP) (w : World) (h : ItsL w v xs) (hn : xs.length ≤ 20) (hs : ∀ x ∈ xs, itSmall x ∧ itKeys x) :
    Calls Try.prog 17 #[v] w (EncTo xs w) := by
  have HS := Lib.hid hs
  have HI := Lib.hid h
  obtain ⟨A, c, rfl, hc, hel⟩ := id h
  obtain ⟨n, hN⟩ : ∃ n, n = xs.length := ⟨_, rfl⟩
  have HN := Lib.hid hN
  rw [← hN] at hc hn ⊢
  have HI : Hid (ItsL w (.slice A n c) xs) := Lib.hid (by rw [hN]; exact h)
  have HEL := Lib.hid hel
  clear hs h hel hN
  have hq : Below w.heap.size w ((w.alloc (.cells waysC 104)).alloc (.cells #[.slice (some ⟨w.heap.size, 0, none⟩) 3 3] 95)) := (by repeat (first | with_reducible exact Below.refl _ _ | with_reducible assumption | refine Below.drew ?_ | refine below_drewN ?_ | refine Below.alloc ?_ (by first | omega | (simp; done) | (simp; omega)) _ | refine below_setRow ?_ (by omega) _ | refine Below.setCell ?_ (by first | omega | (simp; done) | (simp; omega)) _))
  have hw1 : WaysAt ((w.alloc (.cells waysC 104)).alloc (.cells #[.slice (some ⟨w.heap.size, 0, none⟩) 3 3] 95)) (w.heap.size + 1) w.heap.size := ⟨RowIs.new' (by simp), (RowIs.new _ _ _).alloc _⟩
  have CF := Lib.hid (containsI_any _ xs _ _ _ (HI.out.step hq) (by rw [← HN.out]; omega) hw1)
  go_enter Try.func17, Try.ntmps17
  go_wp2_with fail
  refine (ways_any _).mono ?_
  rintro e w1 ⟨rfl, rfl⟩
  go_wp2_with fail
  cases hall : xs.all (fun x => kindOk x.kind) with
  | false =>
    have ep : encP xs = ([], 51) := by unfold encP; rw [hall]; rfl
    rw [hall] at CF
    clear hall
    refine CF.out.mono ?_
    rintro e w2 ⟨rfl, hb2⟩
    go_wp2_with fail
    refine bodyPost_ret (results_tmp2 rfl _ _ _) rfl ?_
    exact ⟨_, by rw [ep]; rfl, by rw [ep]; exact Bs.nil _, hq.trans (hb2.mono hq.size)⟩
  | true =>
    rw [hall] at CF
    have HALL := Lib.hid hall
    clear hall
    refine CF.out.mono ?_
    rintro e w2 ⟨rfl, hb2⟩
    have hb02 := hq.trans (hb2.mono hq.size)
    replace hw1 := hw1.step hb2
    go_wp2_with fail
    obtain ⟨og, hog⟩ : ∃ og, og = w2.heap.size := ⟨_, rfl⟩
    have ho0 : OutIs (w2.alloc (.cells #[.slice none 0 0, .int .i64 0] 49)) og ⟨[], 0⟩ := ⟨_, RowIs.new' hog, Bs.nil _⟩
    rw [← hog]
    have HOG := Lib.hid hog
    have hzw := hb02.size
    clear hog
    go_loopw [14] (fun i wr => ∃ k : Nat, k ≤ n ∧ i = .int .i64 k ∧ OutIs wr og (encK xs k) ∧ Below w2.heap.size w2 wr) (fun i _ => n - (intOf i).toNat)
    case atStart => exact ⟨0, Nat.zero_le _, rfl, ho0, (by repeat (first | with_reducible exact Below.refl _ _ | with_reducible assumption | refine Below.drew ?_ | refine below_drewN ?_ | refine Below.alloc ?_ (by first | omega | (simp; done) | (simp; omega)) _ | refine below_setRow ?_ (by omega) _ | refine Below.setCell ?_ (by first | omega | (simp; done) | (simp; omega)) _))⟩
    case round =>
      obtain ⟨k, hk, rfl, ho, hb⟩ := hrel
      by_cases hlt : k < n
      · have hlt' : k < xs.length := by rw [← HN.out]; exact hlt
        obtain ⟨g, oo, rfl, hg, hit⟩ := HEL.out (by omega)
        obtain ⟨vb, vl, it⟩ := hit k hlt'
        have hb0r : Below w.heap.size w wr := hb02.trans (hb.mono hzw)
        have it2 := it.step hg hb0r
        have hwr := hw1.step hb
        obtain ⟨q0, q1, q2, q3, hvb, hvl, hkk⟩ := it2
        have hsm := (HS.out _ (nthI_mem hlt')).1
        have hlen := encK_len xs HS.out k (by omega)
        have hsucc : encK xs (k + 1) = putIt (encK xs k) (nthI xs k) := rfl
        have hko : kindOk (nthI xs k).kind = true := by
          have := HALL.out
          rw [List.all_eq_true] at this
          exact this _ (nthI_mem hlt')
        obtain ⟨x, hx⟩ : ∃ x, x = nthI xs k := ⟨_, rfl⟩
        rw [← hx] at q0 q1 hvb hvl hkk hsm hsucc hko
        obtain ⟨Ab, nb, cb, rfl⟩ := hvb.isSlice
        obtain ⟨Al, nl, cl, rfl⟩ := hvl.isSlice
        have hk0 : (0 : Int) ≤ (k : Int) := by omega
        have hk1 : (k : Int) < (n : Int) := by omega
        obtain ⟨wx, hwxe⟩ : ∃ wx, wx = wr.alloc (.cells (itC x (.slice Ab nb cb) (.slice Al nl cl)) 43) := ⟨_, rfl⟩
        have hq1 : Below wr.heap.size wr wx := by rw [hwxe]; exact (by repeat (first | with_reducible exact Below.refl _ _ | with_reducible assumption | refine Below.drew ?_ | refine below_drewN ?_ | refine Below.alloc ?_ (by first | omega | (simp; done) | (simp; omega)) _ | refine below_setRow ?_ (by omega) _ | refine Below.setCell ?_ (by first | omega | (simp; done) | (simp; omega)) _))
        have hxr : RowIs wx wr.heap.size (itC x (.slice Ab nb cb) (.slice Al nl cl)) := by rw [hwxe]; exact RowIs.new _ _ _
        have hwx := hwr.step hq1
        have hvbx := hvb.step hq1
        have hvlx := hvl.step hq1
        have hox := ho.step hq1
        have hwd : Below wx.heap.size wx wx.drew := (by repeat (first | with_reducible exact Below.refl _ _ | with_reducible assumption | refine Below.drew ?_ | refine below_drewN ?_ | refine Below.alloc ?_ (by first | omega | (simp; done) | (simp; omega)) _ | refine below_setRow ?_ (by omega) _ | refine Below.setCell ?_ (by first | omega | (simp; done) | (simp; omega)) _))
        have hxc : ∀ j u, (itC x (.slice Ab nb cb) (.slice Al nl cl))[j]? = some u → wx.cell? ⟨wr.heap.size, j, none⟩ = some u := fun j u hu => by
          obtain ⟨t, ht⟩ := hxr.row.heap
          rw [hxr.has] at ht
          rw [cell_of_row wx _ j _ t (0, 0) ht]; exact hu
        have hX0 := hxc 0 _ rfl
        have hX1 := hxc 1 _ rfl
        have hX2 := hxc 2 _ rfl
        have hX3 := hxc 3 _ rfl
        have hcell : ∀ j u, waysC[j]? = some u → wx.cell? ⟨w.heap.size, j, none⟩ = some u := fun j u hu => by
          obtain ⟨t, ht⟩ := hwx.row.row.heap
          rw [hwx.row.has] at ht
          rw [cell_of_row wx _ j _ t (0, 0) ht]; exact hu
        have hlt1 : w.heap.size + 1 < wx.heap.size := hwx.cell.lt
        have hlt2 : w.heap.size < wx.heap.size := hwx.row.lt
        have hlt3 : wr.heap.size < wx.heap.size := hxr.lt
        have HSU := Lib.hid hsucc
        clear it hit hx hsucc hxc
        have HWX := Lib.hid hwxe
        clear hwxe
        by_cases h9 : x.kind = 9
        · have hix : findIx x.kind = 1 := by rw [h9]; decide
          have hput : putIt (encK xs k) x = obytesP (encK xs k) x.b := by unfold putIt; rw [if_pos h9]
          have HPUT := Lib.hid hput
          have hsm1 := hsm.1
          clear hko hput h9
          have hS : EncS (w.heap.size + 1) w.heap.size wr.heap.size 4 (fnV 89) x.kind x.n (.slice Ab nb cb) (.slice Al nl cl) wx.drew := ⟨hwx.cell.cell0, hcell 4 _ rfl, hX0, hX1, hX2, hX3⟩
          have FA := find_any w.heap.size x.kind
          rw [hix] at FA
          have PUT := Lib.hid (fun (W : World) (h : OutIs W og (encK xs k)) h2 => putW1_any og (encK xs k) x (.slice Ab nb cb) (.slice Al nl cl) W h h2 ⟨_, _, _, rfl⟩ (by omega))
          have HFA := Lib.hid FA
          clear FA hix hcell hX0 hX1 hX2 hX3
          go_wp2_with fail
          rw [← HWX.out]
          refine wp_region_lexT [] [0, 1, 3, 7, 8] (EncS (w.heap.size + 1) w.heap.size wr.heap.size 4 (fnV 89) x.kind x.n (.slice Ab nb cb) (.slice Al nl cl)) (by kernel_rfl) (by decide +kernel) hS (fun hS => ?_)
          (go_wp2_with (first | (refine wpLexT_pure rfl (fun _ _ => ?_); go_simp; refine ⟨_, fun w9 hw9 => (by have s1 := hw9.1; have s3 := hw9.2.2.1; go_simp; rfl), ?_⟩) | (refine wpLexT_pure0 rfl (fun _ _ => ?_); go_simp; try go_bits) | (refine wpLexT_read rfl (fun _ _ => ?_); go_simp; try go_bits) | (refine wpLexT_loud rfl (fun KL hKL => ?_))))
          refine (HFA.out _ (hwx.row.step hwd)).mono ?_
          rintro e w4 ⟨rfl, hb4⟩
          have hb34 : Below wx.heap.size wx w4 := hwd.trans hb4
          go_wp2_with fail
          refine hKL _ _ (hS.step hb4 hlt1 hlt2 hlt3) (fun hS4 => ?_)
          clear hKL
          (go_wp2_with (first | (refine wpLexT_pure rfl (fun _ _ => ?_); go_simp; refine ⟨_, fun w9 hw9 => (by have s1 := hw9.1; have s2 := hw9.2.1; have s3 := hw9.2.2.1; have s4 := hw9.2.2.2.1; have s5 := hw9.2.2.2.2.1; have s6 := hw9.2.2.2.2.2; go_simp; rfl), ?_⟩) | (refine wpLexT_pure0 rfl (fun _ _ => ?_); go_simp; try go_bits) | (refine wpLexT_read rfl (fun _ _ => ?_); go_simp; try go_bits)))
          refine wpLexT_last (fun KL hKL => ?_)
          go_wp2_with fail
          refine (PUT.out _ (hox.step hb34) (hvbx.step hb34)).mono ?_
          rintro e w5 ⟨rfl, ho5, hu5⟩
          go_wp2_with fail
          have hbw : Below w2.heap.size w2 w4 := (hb.trans (hq1.mono hb.size)).trans (hb34.mono (by have := hq1.size; have := hb.size; omega))
          exact ⟨⟨k + 1, by omega, by go_num, by rw [HSU.out, HPUT.out]; exact ho5, hu5.below hbw (by have := HOG.out; omega) hbw.size⟩, by simp [intOf]; omega⟩
        · by_cases h32 : x.kind = 32
          · have hix : findIx x.kind = 2 := by rw [h32]; decide
            have hput : putIt (encK xs k) x = okeysP (encK xs k) x.l := by unfold putIt; rw [if_neg h9, if_pos h32]
            have HPUT := Lib.hid hput
            have hsm2 := hsm.2
            clear hko hput h9 h32
            have hS : EncS (w.heap.size + 1) w.heap.size wr.heap.size 7 (fnV 92) x.kind x.n (.slice Ab nb cb) (.slice Al nl cl) wx.drew := ⟨hwx.cell.cell0, hcell 7 _ rfl, hX0, hX1, hX2, hX3⟩
            have FA := find_any w.heap.size x.kind
            rw [hix] at FA
            have PUT := Lib.hid (fun (W : World) (h : OutIs W og (encK xs k)) h2 => putW2_any og (encK xs k) x (.slice Ab nb cb) (.slice Al nl cl) W h ⟨_, _, _, rfl⟩ h2 hkk (by omega) (by omega))
            have HFA := Lib.hid FA
            clear FA hix hcell hX0 hX1 hX2 hX3
            go_wp2_with fail
            rw [← HWX.out]
            refine wp_region_lexT [] [0, 1, 3, 7, 8] (EncS (w.heap.size + 1) w.heap.size wr.heap.size 7 (fnV 92) x.kind x.n (.slice Ab nb cb) (.slice Al nl cl)) (by kernel_rfl) (by decide +kernel) hS (fun hS => ?_)
            (go_wp2_with (first | (refine wpLexT_pure rfl (fun _ _ => ?_); go_simp; refine ⟨_, fun w9 hw9 => (by have s1 := hw9.1; have s3 := hw9.2.2.1; go_simp; rfl), ?_⟩) | (refine wpLexT_pure0 rfl (fun _ _ => ?_); go_simp; try go_bits) | (refine wpLexT_read rfl (fun _ _ => ?_); go_simp; try go_bits) | (refine wpLexT_loud rfl (fun KL hKL => ?_))))
            refine (HFA.out _ (hwx.row.step hwd)).mono ?_
            rintro e w4 ⟨rfl, hb4⟩
            have hb34 : Below wx.heap.size wx w4 := hwd.trans hb4
            go_wp2_with fail
            refine hKL _ _ (hS.step hb4 hlt1 hlt2 hlt3) (fun hS4 => ?_)
            clear hKL
            (go_wp2_with (first | (refine wpLexT_pure rfl (fun _ _ => ?_); go_simp; refine ⟨_, fun w9 hw9 => (by have s1 := hw9.1; have s2 := hw9.2.1; have s3 := hw9.2.2.1; have s4 := hw9.2.2.2.1; have s5 := hw9.2.2.2.2.1; have s6 := hw9.2.2.2.2.2; go_simp; rfl), ?_⟩) | (refine wpLexT_pure0 rfl (fun _ _ => ?_); go_simp; try go_bits) | (refine wpLexT_read rfl (fun _ _ => ?_); go_simp; try go_bits)))
            refine wpLexT_last (fun KL hKL => ?_)
            go_wp2_with fail
            refine (PUT.out _ (hox.step hb34) (hvlx.step hb34)).mono ?_
            rintro e w5 ⟨rfl, ho5, hu5⟩
            go_wp2_with fail
            have hbw : Below w2.heap.size w2 w4 := (hb.trans (hq1.mono hb.size)).trans (hb34.mono (by have := hq1.size; have := hb.size; omega))
            exact ⟨⟨k + 1, by omega, by go_num, by rw [HSU.out, HPUT.out]; exact ho5, hu5.below hbw (by have := HOG.out; omega) hbw.size⟩, by simp [intOf]; omega⟩
          · have hsz : sizeOk x.kind = true := by
              unfold kindOk at hko
              simpa [h9, h32] using hko
            have hix : findIx x.kind = 0 := by unfold findIx isWay; rw [if_pos (by simpa using hsz)]
            have hput : putIt (encK xs k) x = onumP (encK xs k) x.n x.kind := by unfold putIt; rw [if_neg h9, if_neg h32]
            have HPUT := Lib.hid hput
            clear hko hsz hput h9 h32
            have hS : EncS (w.heap.size + 1) w.heap.size wr.heap.size 1 (fnV 86) x.kind x.n (.slice Ab nb cb) (.slice Al nl cl) wx.drew := ⟨hwx.cell.cell0, hcell 1 _ rfl, hX0, hX1, hX2, hX3⟩
            have FA := find_any w.heap.size x.kind
            rw [hix] at FA
            have PUT := Lib.hid (fun (W : World) (h : OutIs W og (encK xs k)) => putW0_any og (encK xs k) x (.slice Ab nb cb) (.slice Al nl cl) W h ⟨_, _, _, rfl⟩ ⟨_, _, _, rfl⟩ (by omega))
            have HFA := Lib.hid FA
            clear FA hix hcell hX0 hX1 hX2 hX3
            go_wp2_with fail
            rw [← HWX.out]
            refine wp_region_lexT [] [0, 1, 3, 7, 8] (EncS (w.heap.size + 1) w.heap.size wr.heap.size 1 (fnV 86) x.kind x.n (.slice Ab nb cb) (.slice Al nl cl)) (by kernel_rfl) (by decide +kernel) hS (fun hS => ?_)
            (go_wp2_with (first | (refine wpLexT_pure rfl (fun _ _ => ?_); go_simp; refine ⟨_, fun w9 hw9 => (by have s1 := hw9.1; have s3 := hw9.2.2.1; go_simp; rfl), ?_⟩) | (refine wpLexT_pure0 rfl (fun _ _ => ?_); go_simp; try go_bits) | (refine wpLexT_read rfl (fun _ _ => ?_); go_simp; try go_bits) | (refine wpLexT_loud rfl (fun KL hKL => ?_))))
            refine (HFA.out _ (hwx.row.step hwd)).mono ?_
            rintro e w4 ⟨rfl, hb4⟩
            have hb34 : Below wx.heap.size wx w4 := hwd.trans hb4
            go_wp2_with fail
            refine hKL _ _ (hS.step hb4 hlt1 hlt2 hlt3) (fun hS4 => ?_)
            clear hKL
            (go_wp2_with (first | (refine wpLexT_pure rfl (fun _ _ => ?_); go_simp; refine ⟨_, fun w9 hw9 => (by have s1 := hw9.1; have s2 := hw9.2.1; have s3 := hw9.2.2.1; have s4 := hw9.2.2.2.1; have s5 := hw9.2.2.2.2.1; have s6 := hw9.2.2.2.2.2; go_simp; rfl), ?_⟩) | (refine wpLexT_pure0 rfl (fun _ _ => ?_); go_simp; try go_bits) | (refine wpLexT_read rfl (fun _ _ => ?_); go_simp; try go_bits)))
            refine wpLexT_last (fun KL hKL => ?_)
            go_wp2_with fail
            refine (PUT.out _ (hox.step hb34)).mono ?_
            rintro e w5 ⟨rfl, ho5, hu5⟩
            go_wp2_with fail
            have hbw : Below w2.heap.size w2 w4 := (hb.trans (hq1.mono hb.size)).trans (hb34.mono (by have := hq1.size; have := hb.size; omega))
            exact ⟨⟨k + 1, by omega, by go_num, by rw [HSU.out, HPUT.out]; exact ho5, hu5.below hbw (by have := HOG.out; omega) hbw.size⟩, by simp [intOf]; omega⟩
      · have e : k = n := by omega
        have hlen := encK_len xs HS.out k (by rw [e, HN.out]; exact Nat.le_refl _)
        have hall : encP xs = doneP (encK xs k) := by
          have h1 := encK_out xs k (by rw [e, HN.out]; exact Nat.le_refl _)
          rw [List.take_of_length_le (by rw [e, HN.out]; exact Nat.le_refl _)] at h1
          unfold encP
          rw [if_pos HALL.out, h1]
        have HA := Lib.hid hall
        subst e
        clear hall
        go_wp2_with fail
        refine (outdone_any og _ _ ho (by omega)).mono ?_
        rintro e w5 ⟨u, rfl, hu, hb5⟩
        go_wp2_with fail
        refine bodyPost_ret (results_tmp2 rfl _ _ _) rfl ?_
        exact ⟨u, by rw [HA.out]; rfl, by rw [HA.out]; exact hu, (hb02.trans (hb.mono hzw)).trans (hb5.mono (by have := hb.size; omega))⟩
end
end Go.Proofs.Ytifnpphkplogaaa
