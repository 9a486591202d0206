/- Layer 9: a shape: numbers in memory; are all of them Kinds? | Layer 9: Decode, the program's. Printed by gen_dec.py. | Layer 9: Decode, the document's. Printed by gen_rdec.py. -/
import Derived.Test.YtifnpphkplogaaaREncW
namespace Go.Proofs.Ytifnpphkplogaaa
section
open Go.RowKit
@[irreducible] def nthZ (s : List Int) (i : Nat) : Int := s.getD i 0
theorem nthZ_def (s : List Int) (i : Nat) : nthZ s i = s.getD i 0 := by unfold nthZ; rfl
theorem nthZ_mem {s : List Int} {i : Nat} (h : i < s.length) : nthZ s i ∈ s := by
  rw [nthZ_def, List.getD_eq_getElem?_getD, List.getElem?_eq_getElem h]; exact List.getElem_mem h
theorem nthZ_get {s : List Int} {i : Nat} (h : i < s.length) : s[i] = nthZ s i := by
  rw [nthZ_def, List.getD_eq_getElem?_getD, List.getElem?_eq_getElem h]; rfl
def IntsL (w : World) (v : Value) (s : List Int) : Prop := ∃ A c, v = .slice A s.length c ∧ s.length ≤ c ∧ (0 < s.length → ∃ g o, A = some ⟨g, o, none⟩ ∧ g < w.heap.size ∧ ∀ i, i < s.length → w.cell? ⟨g, o + i, none⟩ = some (.int .i64 (nthZ s i)))
theorem IntsL.step {w w' : World} {v : Value} {s : List Int} (h : IntsL w v s) (hb : Below w.heap.size w w') : IntsL w' v s := by
  obtain ⟨A, c, h1, h2, h3⟩ := h
  refine ⟨A, c, h1, h2, fun h0 => ?_⟩
  obtain ⟨g, o, h4, h5, h6⟩ := h3 h0
  exact ⟨g, o, h4, Nat.lt_of_lt_of_le h5 hb.size, fun i hi => (hb.cell (p := ⟨g, o + i, none⟩) h5).trans (h6 i hi)⟩
theorem dec1_any (k : Int) (ca g : Nat) (w : World) (h : WaysAt w ca g) :
    Calls Try.prog 64 #[.int .i64 k, .pointer (some ⟨ca, 0, none⟩)] w (BoolTo (!kindOk k) w) := by
  have hc := h.cell.cell0
  rw [← findIx_neg]
  have FA := Lib.hid (find_any g k _ h.row)
  go_enter Try.func64, Try.ntmps64
  go_wp2_with fail
  refine FA.out.mono ?_
  rintro e w1 ⟨rfl, hb1⟩
  go_wp2_with fail
  go_ret
  exact ⟨rfl, hb1⟩
theorem allz_not {s : List Int} {k : Nat} (hk : k < s.length) (h : kindOk (nthZ s k) = false) : s.all kindOk = false := by
  rw [List.all_eq_false]; exact ⟨_, nthZ_mem hk, by simp [h]⟩
theorem allz_yes {s : List Int} (h : ∀ k, k < s.length → kindOk (nthZ s k) = true) : s.all kindOk = true := by
  rw [List.all_eq_true]
  intro x hx
  obtain ⟨i, hi, rfl⟩ := List.getElem_of_mem hx
  rw [nthZ_get hi]; exact h i hi
set_option maxRecDepth 100000 in
set_option maxHeartbeats 1600000 in
theorem indexZ_any (v : Value) (s : List Int) (ca gw : Nat) (w : World) (h : IntsL w v s) (hn : s.length ≤ 1000000) (hw : WaysAt w ca gw) :
    Calls Try.prog 97 #[v, .func (.func 64) #[] #[.pointer (some ⟨ca, 0, none⟩)]] w (IxTo (!s.all kindOk) w) := by
  obtain ⟨A, c, rfl, hc, hel⟩ := h
  have HEL := Lib.hid hel
  obtain ⟨n, hN⟩ : ∃ n, n = s.length := ⟨_, rfl⟩
  have HN := Lib.hid hN
  rw [← hN] at hc hn ⊢
  clear hel hN
  go_enter Try.func97, Try.ntmps97
  go_wp2_with fail
  go_loopw [8] (fun i wr => ∃ k : Nat, k ≤ n ∧ i = .int .i64 k ∧ Hid (∀ j, j < k → kindOk (nthZ s j) = true) ∧ Below w.heap.size w wr) (fun i _ => n - (intOf i).toNat)
  case atStart => exact ⟨0, by omega, rfl, Lib.hid (fun x hx => absurd hx (by omega)), Below.refl _ _⟩
  case round =>
    obtain ⟨k, hk, rfl, hno, hb⟩ := hrel
    by_cases hlt : k < n
    · have hlt' : k < s.length := by rw [← HN.out]; exact hlt
      obtain ⟨g, o, rfl, hg, hit⟩ := HEL.out (by omega)
      have q0 := (hb.cell (p := ⟨g, o + k, none⟩) hg).trans (hit k hlt')
      have K := dec1_any (nthZ s k) ca gw _ (hw.step hb)
      have hk0 : (0 : Int) ≤ (k : Int) := by omega
      have hk1 : (k : Int) < (n : Int) := by omega
      obtain ⟨x, hx⟩ : ∃ x, x = nthZ s k := ⟨_, rfl⟩
      rw [← hx] at K q0
      have HX := Lib.hid hx
      clear hit hx
      cases hw' : kindOk x with
      | true =>
        rw [hw'] at K
        have HW := Lib.hid hw'
        clear hw'
        go_wp2_with fail
        refine K.mono ?_
        rintro e w1 ⟨rfl, hb1⟩
        go_wp2_with fail
        exact ⟨⟨k + 1, by omega, by go_num, Lib.hid (fun j hj => by
          rcases Nat.lt_or_ge j k with h | h
          · exact hno.out j h
          · obtain rfl : j = k := by omega
            rw [← HX.out]; exact HW.out), hb.trans (hb1.mono hb.size)⟩, by simp [intOf]; omega⟩
      | false =>
        have hall := allz_not hlt' (by rw [← HX.out]; exact hw')
        rw [hw'] at K
        have HA := Lib.hid hall
        clear hw' hall
        go_wp2_with fail
        refine K.mono ?_
        rintro e w1 ⟨rfl, hb1⟩
        go_wp2_with fail
        go_ret
        exact ⟨k, rfl, by rw [HA.out]; simp, hb.trans (hb1.mono hb.size)⟩
    · have e : k = n := by omega
      have hall := allz_yes (s := s) (fun j hj => hno.out j (by rw [e, HN.out]; exact hj))
      subst e
      have HA := Lib.hid hall
      clear hall
      go_wp2_with fail
      go_ret
      exact ⟨-1, rfl, by rw [HA.out]; rfl, hb⟩
theorem containsZ_any (v : Value) (s : List Int) (ca gw : Nat) (w : World) (h : IntsL w v s) (hn : s.length ≤ 1000000) (hw : WaysAt w ca gw) :
    Calls Try.prog 63 #[v, .func (.func 64) #[] #[.pointer (some ⟨ca, 0, none⟩)]] w (BoolTo (!s.all kindOk) w) := by
  have K := Lib.hid (indexZ_any v s ca gw w h hn hw)
  obtain ⟨p, hp⟩ : ∃ p, p = !s.all kindOk := ⟨_, rfl⟩
  rw [← hp] at K ⊢
  clear hp
  go_enter Try.func63, Try.ntmps63
  go_wp2_with fail
  refine K.out.mono ?_
  rintro e w1 ⟨i, rfl, hi, hb1⟩
  go_wp2_with fail
  go_ret
  exact ⟨by rw [← hi]; rfl, hb1⟩
/-! ### what the closures read -/
def GetTo (B g xr f : Nat) (P : World → Value → Prop) (i' : InP) (w : World) (e : Ending) (w' : World) : Prop := ∃ w1 v, e = .returned (.tuple #[]) ∧ Upd g w w1 ∧ InIs w1 B g i' ∧ P w1 v ∧ w' = w1.setCell ⟨xr, f, none⟩ v
theorem it_cells {w : World} {xr : Nat} {a b c d : Value} (h : RowIs w xr #[a, b, c, d]) : w.cell? ⟨xr, 0, none⟩ = some a ∧ w.cell? ⟨xr, 1, none⟩ = some b ∧ w.cell? ⟨xr, 2, none⟩ = some c ∧ w.cell? ⟨xr, 3, none⟩ = some d := by
  obtain ⟨t, ht⟩ := h.row.heap
  rw [h.has] at ht
  exact ⟨by rw [cell_of_row w xr 0 _ t (0, 0) ht]; rfl, by rw [cell_of_row w xr 1 _ t (0, 0) ht]; rfl, by rw [cell_of_row w xr 2 _ t (0, 0) ht]; rfl, by rw [cell_of_row w xr 3 _ t (0, 0) ht]; rfl⟩
theorem getW0_any (B g xr : Nat) (hne : xr ≠ g) (i : InP) (k : Int) (b c d : Value) (w : World) (h : InIs w B g i) (hx : RowIs w xr #[.int .i64 k, b, c, d]) :
    Calls Try.prog 87 #[.pointer (some ⟨g, 0, none⟩), .pointer (some ⟨xr, 0, none⟩)] w (GetTo B g xr 1 (fun _ v => v = .int .u64 (n64 (inumP i k).1)) (inumP i k).2 w) := by
  obtain ⟨c0, -, -, -⟩ := it_cells hx
  have F := Lib.hid (innum_any B g i k _ h)
  have HX := Lib.hid hx
  clear hx
  go_enter Try.func87, Try.ntmps87
  go_wp2_with fail
  refine F.out.mono ?_
  rintro e w1 ⟨rfl, hi1, hu1⟩
  have hx1 := HX.out.upd hu1 hne
  obtain ⟨-, c1, -, -⟩ := it_cells hx1
  have f1 := hx1.fz 1
  clear c0
  go_wp2_with fail
  go_end0
  exact ⟨w1, _, rfl, hu1, hi1, rfl, rfl⟩
theorem getW1_any (B g xr : Nat) (hne : xr ≠ g) (i : InP) (k : Int) (b c d : Value) (w : World) (h : InIs w B g i) (hx : RowIs w xr #[.int .i64 k, b, c, d]) :
    Calls Try.prog 90 #[.pointer (some ⟨g, 0, none⟩), .pointer (some ⟨xr, 0, none⟩)] w (GetTo B g xr 2 (fun W v => Bs W v (ibytesP i 4000).1) (ibytesP i 4000).2 w) := by
  have F := Lib.hid (inbytes_any B g i 4000 _ h)
  have HX := Lib.hid hx
  clear hx
  go_enter Try.func90, Try.ntmps90
  go_wp2_with fail
  refine F.out.mono ?_
  rintro e w1 ⟨v1, rfl, hv1, hi1, hu1⟩
  have hx1 := HX.out.upd hu1 hne
  obtain ⟨-, -, c1, -⟩ := it_cells hx1
  have f1 := hx1.fz 2
  have HV := Lib.hid hv1
  obtain ⟨Av, nv, cv, rfl⟩ := hv1.isSlice
  clear hv1
  go_wp2_with fail
  go_end0
  exact ⟨w1, _, rfl, hu1, hi1, HV.out, rfl⟩
theorem getW2_any (B g xr : Nat) (hne : xr ≠ g) (i : InP) (k : Int) (b c d : Value) (w : World) (h : InIs w B g i) (hx : RowIs w xr #[.int .i64 k, b, c, d]) :
    Calls Try.prog 93 #[.pointer (some ⟨g, 0, none⟩), .pointer (some ⟨xr, 0, none⟩)] w (GetTo B g xr 3 (fun W v => KsL W v (ikeysP i 100).1) (ikeysP i 100).2 w) := by
  have F := Lib.hid (inkeys_any B g i 100 _ h)
  have HX := Lib.hid hx
  clear hx
  go_enter Try.func93, Try.ntmps93
  go_wp2_with fail
  refine F.out.mono ?_
  rintro e w1 ⟨v1, rfl, hv1, hi1, hu1⟩
  have hx1 := HX.out.upd hu1 hne
  obtain ⟨-, -, -, c1⟩ := it_cells hx1
  have f1 := hx1.fz 3
  have HV := Lib.hid hv1
  obtain ⟨Av, nv, cv, rfl⟩ := hv1.isSlice
  clear hv1
  go_wp2_with fail
  go_end0
  exact ⟨w1, _, rfl, hu1, hi1, HV.out, rfl⟩
end
section
open Go.RowKit
attribute [local go_sem] fnV
/-- the first k Kinds, read -/
def decK (s : List Int) (b : List UInt8) : Nat → List ItP × InP
  | 0 => ([], ⟨b, 0⟩)
  | k + 1 => ((decK s b k).1 ++ [(getIt (decK s b k).2 (nthZ s k)).1], (getIt (decK s b k).2 (nthZ s k)).2)
theorem decK_len (s : List Int) (b : List UInt8) : ∀ k, (decK s b k).1.length = k
  | 0 => rfl
  | k + 1 => by rw [decK, List.length_append, decK_len s b k]; rfl
theorem decK_in (s : List Int) (b : List UInt8) : ∀ (k : Nat), k ≤ s.length → decIn (s.take k) ⟨b, 0⟩ = decK s b k
  | 0, _ => by simp [decIn, decK]
  | k + 1, h => by
    have app : ∀ (l : List Int) (y : Int) (i : InP), decIn (l ++ [y]) i = ((decIn l i).1 ++ [(getIt (decIn l i).2 y).1], (getIt (decIn l i).2 y).2) := by
      intro l y
      induction l with
      | nil => intro i; rfl
      | cons a r ih => intro i; rw [List.cons_append, decIn, ih, decIn]; rfl
    rw [List.take_add_one, List.getElem?_eq_getElem (by omega), Option.toList_some, app, decK_in s b k (by omega), decK, nthZ_get (by omega)]
theorem decK_keys (s : List Int) (b : List UInt8) : ∀ k, ∀ x ∈ (decK s b k).1, itKeys x
  | 0, x, hx => by simp [decK] at hx
  | k + 1, x, hx => by
    rw [decK, List.mem_append] at hx
    rcases hx with hx | hx
    · exact decK_keys s b k x hx
    · obtain rfl : x = _ := by simpa using hx
      unfold getIt
      split
      · intro y hy; simp at hy
      · split
        · unfold ikeysP
          exact cutK_all _ _ (Nat.mul_div_le _ _)
        · intro y hy; simp at hy
def DecTo (s : List Int) (b : List UInt8) (w : World) (e : Ending) (w' : World) : Prop := ∃ u, e = .returned (.tuple #[u, .int .i64 (decP s b).2]) ∧ ItsL w' u (decP s b).1 ∧ Below w.heap.size w w'
/-- what the loads of a round see -/
def DecS (ca gw fo : Nat) (fv : Value) (w : World) : Prop := w.cell? ⟨ca, 0, none⟩ = some (.slice (some ⟨gw, 0, none⟩) 3 3) ∧ w.cell? ⟨gw, fo, none⟩ = some fv
theorem DecS.step {ca gw fo : Nat} {fv : Value} {w w' : World} (h : DecS ca gw fo fv w) (hb : Below w.heap.size w w') (h1 : ca < w.heap.size) (h2 : gw < w.heap.size) : DecS ca gw fo fv w' :=
  ⟨(hb.cell (p := ⟨ca, 0, none⟩) h1).trans h.1, (hb.cell (p := ⟨gw, fo, none⟩) h2).trans h.2⟩
theorem OwnG.lt' {T : TypeId} {s : Nat} {p : Value → Bool} {w : World} {base n : Nat} {v : Value} {xs : List Value} (h : OwnG T s p w base v n xs) {k : Nat} (hk : v.ownBlock = some k) : k < w.heap.size := (h.lt hk).2
theorem OwnI.lt {T : TypeId} {w : World} {base : Nat} {v : Value} {xs : List ItP} (h : OwnI T w base v xs) {k : Nat} (hk : v.ownBlock = some k) : base ≤ k ∧ k < w.heap.size := by obtain ⟨cs, h1, _⟩ := h; exact h1.lt hk
theorem OwnI.updNe {T : TypeId} {w w' : World} {base g : Nat} {v : Value} {xs : List ItP} (h : OwnI T w base v xs) (hu : Upd g w w') (hn : No8 w g) (hg : v.ownBlock ≠ some g) : OwnI T w' base v xs := by
  obtain ⟨cs, h1, h2⟩ := h
  exact ⟨cs, h1.keep fun k hk _ hl => hu.block k hl (fun e => hg (by rw [hk, e])), h2.map (fun _ _ h => h.upd hu hn) (fun _ _ hk h => h.upd hk hu hn)⟩
theorem InIs.no8 {w : World} {B g : Nat} {i : InP} (h : InIs w B g i) : No8 w g := by
  obtain ⟨_, v, h1, h2⟩ := h
  obtain ⟨A, c, rfl, _⟩ := h2
  exact no8_row h1 (by simp)
theorem row4_no8 {w : World} {xr : Nat} {k : Int} {n : Int} {A1 A2 : Option Addr} {n1 c1 n2 c2 : Nat} (h : RowIs w xr #[.int .i64 k, .int .u64 n, .slice A1 n1 c1, .slice A2 n2 c2]) : No8 w xr := no8_row h (by simp)
set_option maxRecDepth 100000 in
set_option maxHeartbeats 6400000 in
theorem decode_any (v vb : Value) (s : List Int) (b : List UInt8) (w : World) (h : IntsL w v s) (hvb : Bs w vb b) (hn : s.length ≤ 1000) :
    Calls Try.prog 21 #[v, vb] w (DecTo s b w) := by
  have HI := Lib.hid h
  have HVB := Lib.hid hvb
  obtain ⟨A, c, rfl, hc, hel⟩ := id h
  obtain ⟨n, hN⟩ : ∃ n, n = s.length := ⟨_, rfl⟩
  have HN := Lib.hid hN
  rw [← hN] at hc hn ⊢
  have HI : Hid (IntsL w (.slice A n c) s) := Lib.hid (by rw [hN]; exact h)
  have HEL := Lib.hid hel
  clear h hel hN hvb
  have hq : Below w.heap.size w ((w.alloc (.cells waysC 104)).alloc (.cells #[.slice (some ⟨w.heap.size, 0, none⟩) 3 3] 95)) := (by repeat (first | with_reducible exact Below.refl _ _ | with_reducible assumption | refine Below.drew ?_ | refine below_drewN ?_ | refine Below.alloc ?_ (by first | omega | (simp; done) | (simp; omega)) _ | refine below_setRow ?_ (by omega) _ | refine Below.setCell ?_ (by first | omega | (simp; done) | (simp; omega)) _))
  have hw1 : WaysAt ((w.alloc (.cells waysC 104)).alloc (.cells #[.slice (some ⟨w.heap.size, 0, none⟩) 3 3] 95)) (w.heap.size + 1) w.heap.size := ⟨RowIs.new' (by simp), (RowIs.new _ _ _).alloc _⟩
  have CF := Lib.hid (containsZ_any _ s _ _ _ (HI.out.step hq) (by rw [← HN.out]; omega) hw1)
  go_enter Try.func21, Try.ntmps21
  go_wp2_with fail
  refine (ways_any _).mono ?_
  rintro e w1 ⟨rfl, rfl⟩
  go_wp2_with fail
  cases hall : s.all kindOk with
  | false =>
    have ep : decP s b = ([], 51) := by unfold decP; rw [hall]; rfl
    rw [hall] at CF
    clear hall
    refine CF.out.mono ?_
    rintro e w2 ⟨rfl, hb2⟩
    go_wp2_with fail
    refine bodyPost_ret (results_tmp2 rfl _ _ _) rfl ?_
    exact ⟨_, by rw [ep]; rfl, by rw [ep]; exact ItsL.nil _, hq.trans (hb2.mono hq.size)⟩
  | true =>
    rw [hall] at CF
    have HALL := Lib.hid hall
    clear hall
    refine CF.out.mono ?_
    rintro e w2 ⟨rfl, hb2⟩
    have hb02 := hq.trans (hb2.mono hq.size)
    replace hw1 := hw1.step hb2
    go_wp2_with fail
    refine (read_any vb b _ (HVB.out.step hb02)).mono ?_
    rintro e w3 ⟨g, rfl, hin, hb3⟩
    have hgB := hin.1
    have hgl := hin.lt
    have hz02 := hb02.size
    have hb03 := hb02.trans (hb3.mono hz02)
    have hz23 := hb3.size
    go_wp2_with fail
    go_loopw [8, 21] (fun o i wr => ∃ k : Nat, k ≤ n ∧ i = .int .i64 k ∧ InIs wr w2.heap.size g (decK s b k).2 ∧ OwnI 43 wr w3.heap.size o (decK s b k).1 ∧ Below w2.heap.size w2 wr ∧ w3.heap.size ≤ wr.heap.size) (fun _ i _ => n - (intOf i).toNat)
    case atStart => exact ⟨0, Nat.zero_le _, rfl, hin, OwnI.nil _ _ _, hb3, Nat.le_refl _⟩
    case round =>
      obtain ⟨k, hk, rfl, hi, own, hb, hz3⟩ := hrel
      by_cases hlt : k < n
      · have hlt' : k < s.length := by rw [← HN.out]; exact hlt
        obtain ⟨gs, oo, rfl, hgs, hit⟩ := HEL.out (by omega)
        have hb0r : Below w.heap.size w wr := hb02.trans (hb.mono hz02)
        have q0 := (hb0r.cell (p := ⟨gs, oo + k, none⟩) hgs).trans (hit k hlt')
        have hwr : WaysAt wr (w.heap.size + 1) w.heap.size := hw1.step hb
        have hko : kindOk (nthZ s k) = true := by
          have := HALL.out
          rw [List.all_eq_true] at this
          exact this _ (nthZ_mem hlt')
        have hs1 : (decK s b (k + 1)).1 = (decK s b k).1 ++ [(getIt (decK s b k).2 (nthZ s k)).1] := rfl
        have hs2 : (decK s b (k + 1)).2 = (getIt (decK s b k).2 (nthZ s k)).2 := rfl
        have hxl := decK_len s b k
        obtain ⟨X, hX⟩ : ∃ X, X = (decK s b k).1 := ⟨_, rfl⟩
        obtain ⟨I, hI⟩ : ∃ I, I = (decK s b k).2 := ⟨_, rfl⟩
        obtain ⟨K, hK⟩ : ∃ K, K = nthZ s k := ⟨_, rfl⟩
        rw [← hI] at hi
        rw [← hX] at own hxl
        rw [← hK] at q0 hko
        rw [← hX, ← hI, ← hK] at hs1
        rw [← hI, ← hK] at hs2
        have HS1 := Lib.hid hs1; have HS2 := Lib.hid hs2; have HXL := Lib.hid hxl
        have hk0 : (0 : Int) ≤ (k : Int) := by omega
        have hk1 : (k : Int) < (n : Int) := by omega
        obtain ⟨Ao, co, rfl, -⟩ := own.slice
        rw [hxl] at own ⊢
        obtain ⟨wx, hwxe⟩ : ∃ wx, wx = wr.alloc (.cells #[.int .i64 K, .int .u64 0, .slice none 0 0, .slice none 0 0] 43) := ⟨_, rfl⟩
        have hq1 : Below wr.heap.size wr wx := by rw [hwxe]; exact (by repeat (first | with_reducible exact Below.refl _ _ | with_reducible assumption | refine Below.drew ?_ | refine below_drewN ?_ | refine Below.alloc ?_ (by first | omega | (simp; done) | (simp; omega)) _ | refine below_setRow ?_ (by omega) _ | refine Below.setCell ?_ (by first | omega | (simp; done) | (simp; omega)) _))
        have hxr : RowIs wx wr.heap.size #[.int .i64 K, .int .u64 0, .slice none 0 0, .slice none 0 0] := by rw [hwxe]; exact RowIs.new _ _ _
        have hwx := hwr.step hq1
        have hix := hi.step hq1
        have hownx := own.step hq1
        have hwd : Below wx.heap.size wx wx.drew := (by repeat (first | with_reducible exact Below.refl _ _ | with_reducible assumption | refine Below.drew ?_ | refine below_drewN ?_ | refine Below.alloc ?_ (by first | omega | (simp; done) | (simp; omega)) _ | refine below_setRow ?_ (by omega) _ | refine Below.setCell ?_ (by first | omega | (simp; done) | (simp; omega)) _))
        have hcell : ∀ j u, waysC[j]? = some u → wx.cell? ⟨w.heap.size, j, none⟩ = some u := fun j u hu => by
          obtain ⟨t, ht⟩ := hwx.row.row.heap
          rw [hwx.row.has] at ht
          rw [cell_of_row wx _ j _ t (0, 0) ht]; exact hu
        have hlt1 : w.heap.size + 1 < wx.heap.size := hwx.cell.lt
        have hlt2 : w.heap.size < wx.heap.size := hwx.row.lt
        have hlt3 : wr.heap.size < wx.heap.size := hxr.lt
        have hown1 : (Value.slice Ao k co).ownBlock ≠ some wr.heap.size := fun e => by have := (own.lt e).2; omega
        have hgw := hi.lt
        have HWX := Lib.hid hwxe
        clear hit hwxe hX hI hK hs1 hs2 hxl
        by_cases h9 : K = 9
        · have hfx : findIx K = 1 := by rw [h9]; decide
          have hget : getIt I K = (⟨K, 0, (ibytesP I 4000).1, []⟩, (ibytesP I 4000).2) := by unfold getIt; rw [if_pos h9]
          have HG := Lib.hid hget
          clear hko hget h9
          have hS : DecS (w.heap.size + 1) w.heap.size 5 (fnV 90) wx.drew := ⟨hwx.cell.cell0, hcell 5 _ rfl⟩
          have FA := find_any w.heap.size K
          rw [hfx] at FA
          have HFA := Lib.hid FA
          clear FA hfx hcell
          go_wp2_with fail
          rw [← HWX.out]
          refine wp_region_lexT [] [0, 1, 6] (DecS (w.heap.size + 1) w.heap.size 5 (fnV 90)) (by kernel_rfl) (by decide +kernel) hS (fun hS => ?_)
          (go_wp2_with (first | (refine wpLexT_pure rfl (fun _ _ => ?_); go_simp; refine ⟨_, fun w9 hw9 => (by have s1 := hw9.1; go_simp; rfl), ?_⟩) | (refine wpLexT_pure0 rfl (fun _ _ => ?_); go_simp; try go_bits) | (refine wpLexT_read rfl (fun _ _ => ?_); go_simp; try go_bits) | (refine wpLexT_loud rfl (fun KL hKL => ?_))))
          refine (HFA.out _ (hwx.row.step hwd)).mono ?_
          rintro e w4 ⟨rfl, hb4⟩
          have hb34 : Below wx.heap.size wx w4 := hwd.trans hb4
          go_wp2_with fail
          refine hKL _ _ (hS.step hb4 hlt1 hlt2) (fun hS4 => ?_)
          clear hKL
          (go_wp2_with (first | (refine wpLexT_pure rfl (fun _ _ => ?_); go_simp; refine ⟨_, fun w9 hw9 => (by have s1 := hw9.1; have s2 := hw9.2; go_simp; rfl), ?_⟩) | (refine wpLexT_pure0 rfl (fun _ _ => ?_); go_simp; try go_bits) | (refine wpLexT_read rfl (fun _ _ => ?_); go_simp; try go_bits)))
          refine wpLexT_last (fun KL hKL => ?_)
          have hx4 := hxr.step hb34
          have hi4 := hix.step hb34
          have own4 := hownx.step hb34
          go_wp2_with fail
          refine (getW1_any w2.heap.size g wr.heap.size (by omega) I K _ _ _ _ hi4 hx4).mono ?_
          rintro e w5 ⟨w5', v5, rfl, hu, hi5, hP, hw5⟩
          obtain ⟨Av, nv, cv, rfl⟩ := Bs.isSlice hP
          have hx5 := hx4.upd hu (by omega)
          have own5 := own4.upd hu hi4.no8 (by omega)
          have huP : Upd wr.heap.size w5' w5 := by rw [hw5]; exact (Upd.refl _ _).put 2 _
          have hno6 : No8 w5' wr.heap.size := no8_row hx5 (by simp)
          have hx6 : RowIs w5 wr.heap.size #[.int .i64 K, .int .u64 0, .slice Av nv cv, .slice none 0 0] := by rw [hw5]; simpa using hx5.put 2 _
          have own6 := own5.updNe huP hno6 hown1
          have hi6 := hi5.upd huP (by have := hb.size; omega) (by omega)
          clear hw5
          obtain ⟨d0, d1, d2, d3⟩ := it_cells hx6
          obtain ⟨w6, hw6⟩ : ∃ w6, w6 = w5.alloc (.cells #[.int .i64 K, .int .u64 0, .slice Av nv cv, .slice none 0 0] 43) := ⟨_, rfl⟩
          have hq6 : Below w5.heap.size w5 w6 := by rw [hw6]; exact (by repeat (first | with_reducible exact Below.refl _ _ | with_reducible assumption | refine Below.drew ?_ | refine below_drewN ?_ | refine Below.alloc ?_ (by first | omega | (simp; done) | (simp; omega)) _ | refine below_setRow ?_ (by omega) _ | refine Below.setCell ?_ (by first | omega | (simp; done) | (simp; omega)) _))
          have R6 : RowIs w6 w5.heap.size (itC ⟨K, 0, (ibytesP I 4000).1, []⟩ (.slice Av nv cv) (.slice none 0 0)) := by
            rw [hw6]
            have := RowIs.new w5 #[.int .i64 K, .int .u64 0, .slice Av nv cv, .slice none 0 0] 43
            simpa [itC, n64_def] using this
          have hB6 : Bs w6 (.slice Av nv cv) (ibytesP I 4000).1 := (hP.upd huP hno6).step hq6
          have own7 := own6.step hq6
          have hbw : Below w2.heap.size w2 w4 := (hb.trans (hq1.mono hb.size)).trans (hb34.mono (by have := hq1.size; have := hb.size; omega))
          have hbw5 := huP.below (hu.below hbw (by omega) hbw.size) (by have := hb.size; omega) (Nat.le_trans hbw.size hu.size)
          have hz4 := hb34.size
          have hz5 := hu.size
          have hz6 := huP.size
          have hz7 := hq6.size
          have hz8 := hq1.size
          have hz77 : w3.heap.size ≤ w6.heap.size := by omega
          have hz78 := hz77
          rw [hw6] at own7 R6 hz7 hz77
          go_wp2_with (at_builtin; refine wpList_appendI Try.underlying22 itInfo rfl (.tmp 36) (.tmp 38) rfl rfl own7 rfl R6 (by rw [← hw6]; exact hB6) (by rw [← hw6]; exact KsL.nil _) (fun y hy => by simp at hy) (by rw [HXL.out]) (by omega) hz77 ?_; intro A8 c8 w8 own8 gr8 ob8 bel8 no8)
          have hb68 : Below w3.heap.size w6 w8 := by rw [hw6]; exact bel8
          have hi8 : InIs w8 w2.heap.size g (getIt I K).2 := by
            rw [HG.out]
            obtain ⟨q1, v9, q2, q3⟩ := hi6.step hq6
            exact ⟨q1, v9, q2.below hb68 (by omega), q3.keep (hb68.mono (by omega))⟩
          exact ⟨⟨k + 1, by omega, by go_num, by rw [HS2.out]; exact hi8, by rw [HS1.out, HG.out]; exact own8, (hbw5.trans (hq6.mono (by omega))).trans (hb68.mono (by omega)), Nat.le_trans hz78 hb68.size⟩, by simp [intOf]; omega⟩
        · by_cases h32 : K = 32
          · have hfx : findIx K = 2 := by rw [h32]; decide
            have hget : getIt I K = (⟨K, 0, [], (ikeysP I 100).1⟩, (ikeysP I 100).2) := by unfold getIt; rw [if_neg h9, if_pos h32]
            have HG := Lib.hid hget
            have hks : ∀ y ∈ (ikeysP I 100).1, y.length = 32 := by unfold ikeysP; exact cutK_all _ _ (Nat.mul_div_le _ _)
            clear hko hget h9 h32
            have hS : DecS (w.heap.size + 1) w.heap.size 8 (fnV 93) wx.drew := ⟨hwx.cell.cell0, hcell 8 _ rfl⟩
            have FA := find_any w.heap.size K
            rw [hfx] at FA
            have HFA := Lib.hid FA
            clear FA hfx hcell
            go_wp2_with fail
            rw [← HWX.out]
            refine wp_region_lexT [] [0, 1, 6] (DecS (w.heap.size + 1) w.heap.size 8 (fnV 93)) (by kernel_rfl) (by decide +kernel) hS (fun hS => ?_)
            (go_wp2_with (first | (refine wpLexT_pure rfl (fun _ _ => ?_); go_simp; refine ⟨_, fun w9 hw9 => (by have s1 := hw9.1; go_simp; rfl), ?_⟩) | (refine wpLexT_pure0 rfl (fun _ _ => ?_); go_simp; try go_bits) | (refine wpLexT_read rfl (fun _ _ => ?_); go_simp; try go_bits) | (refine wpLexT_loud rfl (fun KL hKL => ?_))))
            refine (HFA.out _ (hwx.row.step hwd)).mono ?_
            rintro e w4 ⟨rfl, hb4⟩
            have hb34 : Below wx.heap.size wx w4 := hwd.trans hb4
            go_wp2_with fail
            refine hKL _ _ (hS.step hb4 hlt1 hlt2) (fun hS4 => ?_)
            clear hKL
            (go_wp2_with (first | (refine wpLexT_pure rfl (fun _ _ => ?_); go_simp; refine ⟨_, fun w9 hw9 => (by have s1 := hw9.1; have s2 := hw9.2; go_simp; rfl), ?_⟩) | (refine wpLexT_pure0 rfl (fun _ _ => ?_); go_simp; try go_bits) | (refine wpLexT_read rfl (fun _ _ => ?_); go_simp; try go_bits)))
            refine wpLexT_last (fun KL hKL => ?_)
            have hx4 := hxr.step hb34
            have hi4 := hix.step hb34
            have own4 := hownx.step hb34
            go_wp2_with fail
            refine (getW2_any w2.heap.size g wr.heap.size (by omega) I K _ _ _ _ hi4 hx4).mono ?_
            rintro e w5 ⟨w5', v5, rfl, hu, hi5, hP, hw5⟩
            obtain ⟨Av, nv, cv, rfl⟩ := KsL.isSlice hP
            have hx5 := hx4.upd hu (by omega)
            have own5 := own4.upd hu hi4.no8 (by omega)
            have huP : Upd wr.heap.size w5' w5 := by rw [hw5]; exact (Upd.refl _ _).put 3 _
            have hno6 : No8 w5' wr.heap.size := no8_row hx5 (by simp)
            have hx6 : RowIs w5 wr.heap.size #[.int .i64 K, .int .u64 0, .slice none 0 0, .slice Av nv cv] := by rw [hw5]; simpa using hx5.put 3 _
            have own6 := own5.updNe huP hno6 hown1
            have hi6 := hi5.upd huP (by have := hb.size; omega) (by omega)
            clear hw5
            obtain ⟨d0, d1, d2, d3⟩ := it_cells hx6
            obtain ⟨w6, hw6⟩ : ∃ w6, w6 = w5.alloc (.cells #[.int .i64 K, .int .u64 0, .slice none 0 0, .slice Av nv cv] 43) := ⟨_, rfl⟩
            have hq6 : Below w5.heap.size w5 w6 := by rw [hw6]; exact (by repeat (first | with_reducible exact Below.refl _ _ | with_reducible assumption | refine Below.drew ?_ | refine below_drewN ?_ | refine Below.alloc ?_ (by first | omega | (simp; done) | (simp; omega)) _ | refine below_setRow ?_ (by omega) _ | refine Below.setCell ?_ (by first | omega | (simp; done) | (simp; omega)) _))
            have R6 : RowIs w6 w5.heap.size (itC ⟨K, 0, [], (ikeysP I 100).1⟩ (.slice none 0 0) (.slice Av nv cv)) := by
              rw [hw6]
              have := RowIs.new w5 #[.int .i64 K, .int .u64 0, .slice none 0 0, .slice Av nv cv] 43
              simpa [itC, n64_def] using this
            have hB6 : KsL w6 (.slice Av nv cv) (ikeysP I 100).1 := (hP.upd hks huP hno6).step hq6
            have own7 := own6.step hq6
            have hbw : Below w2.heap.size w2 w4 := (hb.trans (hq1.mono hb.size)).trans (hb34.mono (by have := hq1.size; have := hb.size; omega))
            have hbw5 := huP.below (hu.below hbw (by omega) hbw.size) (by have := hb.size; omega) (Nat.le_trans hbw.size hu.size)
            have hz4 := hb34.size
            have hz5 := hu.size
            have hz6 := huP.size
            have hz7 := hq6.size
            have hz8 := hq1.size
            have hz77 : w3.heap.size ≤ w6.heap.size := by omega
            have hz78 := hz77
            rw [hw6] at own7 R6 hz7 hz77
            go_wp2_with (at_builtin; refine wpList_appendI Try.underlying22 itInfo rfl (.tmp 36) (.tmp 38) rfl rfl own7 rfl R6 (by rw [← hw6]; exact Bs.nil _) (by rw [← hw6]; exact hB6) hks (by rw [HXL.out]) (by omega) hz77 ?_; intro A8 c8 w8 own8 gr8 ob8 bel8 no8)
            have hb68 : Below w3.heap.size w6 w8 := by rw [hw6]; exact bel8
            have hi8 : InIs w8 w2.heap.size g (getIt I K).2 := by
              rw [HG.out]
              obtain ⟨q1, v9, q2, q3⟩ := hi6.step hq6
              exact ⟨q1, v9, q2.below hb68 (by omega), q3.keep (hb68.mono (by omega))⟩
            exact ⟨⟨k + 1, by omega, by go_num, by rw [HS2.out]; exact hi8, by rw [HS1.out, HG.out]; exact own8, (hbw5.trans (hq6.mono (by omega))).trans (hb68.mono (by omega)), Nat.le_trans hz78 hb68.size⟩, by simp [intOf]; omega⟩
          · have hsz : sizeOk K = true := by
              unfold kindOk at hko
              simpa [h9, h32] using hko
            have hfx : findIx K = 0 := by unfold findIx isWay; rw [if_pos (by simpa using hsz)]
            have hget : getIt I K = (⟨K, (inumP I K).1, [], []⟩, (inumP I K).2) := by unfold getIt; rw [if_neg h9, if_neg h32]
            have HG := Lib.hid hget
            clear hko hsz hget h9 h32
            have hS : DecS (w.heap.size + 1) w.heap.size 2 (fnV 87) wx.drew := ⟨hwx.cell.cell0, hcell 2 _ rfl⟩
            have FA := find_any w.heap.size K
            rw [hfx] at FA
            have HFA := Lib.hid FA
            clear FA hfx hcell
            go_wp2_with fail
            rw [← HWX.out]
            refine wp_region_lexT [] [0, 1, 6] (DecS (w.heap.size + 1) w.heap.size 2 (fnV 87)) (by kernel_rfl) (by decide +kernel) hS (fun hS => ?_)
            (go_wp2_with (first | (refine wpLexT_pure rfl (fun _ _ => ?_); go_simp; refine ⟨_, fun w9 hw9 => (by have s1 := hw9.1; go_simp; rfl), ?_⟩) | (refine wpLexT_pure0 rfl (fun _ _ => ?_); go_simp; try go_bits) | (refine wpLexT_read rfl (fun _ _ => ?_); go_simp; try go_bits) | (refine wpLexT_loud rfl (fun KL hKL => ?_))))
            refine (HFA.out _ (hwx.row.step hwd)).mono ?_
            rintro e w4 ⟨rfl, hb4⟩
            have hb34 : Below wx.heap.size wx w4 := hwd.trans hb4
            go_wp2_with fail
            refine hKL _ _ (hS.step hb4 hlt1 hlt2) (fun hS4 => ?_)
            clear hKL
            (go_wp2_with (first | (refine wpLexT_pure rfl (fun _ _ => ?_); go_simp; refine ⟨_, fun w9 hw9 => (by have s1 := hw9.1; have s2 := hw9.2; go_simp; rfl), ?_⟩) | (refine wpLexT_pure0 rfl (fun _ _ => ?_); go_simp; try go_bits) | (refine wpLexT_read rfl (fun _ _ => ?_); go_simp; try go_bits)))
            refine wpLexT_last (fun KL hKL => ?_)
            have hx4 := hxr.step hb34
            have hi4 := hix.step hb34
            have own4 := hownx.step hb34
            go_wp2_with fail
            refine (getW0_any w2.heap.size g wr.heap.size (by omega) I K _ _ _ _ hi4 hx4).mono ?_
            rintro e w5 ⟨w5', v5, rfl, hu, hi5, hP, hw5⟩
            subst hP
            have hx5 := hx4.upd hu (by omega)
            have own5 := own4.upd hu hi4.no8 (by omega)
            have huP : Upd wr.heap.size w5' w5 := by rw [hw5]; exact (Upd.refl _ _).put 1 _
            have hno6 : No8 w5' wr.heap.size := no8_row hx5 (by simp)
            have hx6 : RowIs w5 wr.heap.size #[.int .i64 K, .int .u64 (n64 (inumP I K).1), .slice none 0 0, .slice none 0 0] := by rw [hw5]; simpa using hx5.put 1 _
            have own6 := own5.updNe huP hno6 hown1
            have hi6 := hi5.upd huP (by have := hb.size; omega) (by omega)
            clear hw5
            obtain ⟨d0, d1, d2, d3⟩ := it_cells hx6
            obtain ⟨w6, hw6⟩ : ∃ w6, w6 = w5.alloc (.cells #[.int .i64 K, .int .u64 (n64 (inumP I K).1), .slice none 0 0, .slice none 0 0] 43) := ⟨_, rfl⟩
            have hq6 : Below w5.heap.size w5 w6 := by rw [hw6]; exact (by repeat (first | with_reducible exact Below.refl _ _ | with_reducible assumption | refine Below.drew ?_ | refine below_drewN ?_ | refine Below.alloc ?_ (by first | omega | (simp; done) | (simp; omega)) _ | refine below_setRow ?_ (by omega) _ | refine Below.setCell ?_ (by first | omega | (simp; done) | (simp; omega)) _))
            have R6 : RowIs w6 w5.heap.size (itC ⟨K, (inumP I K).1, [], []⟩ (.slice none 0 0) (.slice none 0 0)) := by
              rw [hw6]
              have := RowIs.new w5 #[.int .i64 K, .int .u64 (n64 (inumP I K).1), .slice none 0 0, .slice none 0 0] 43
              simpa [itC, n64_def] using this

            have own7 := own6.step hq6
            have hbw : Below w2.heap.size w2 w4 := (hb.trans (hq1.mono hb.size)).trans (hb34.mono (by have := hq1.size; have := hb.size; omega))
            have hbw5 := huP.below (hu.below hbw (by omega) hbw.size) (by have := hb.size; omega) (Nat.le_trans hbw.size hu.size)
            have hz4 := hb34.size
            have hz5 := hu.size
            have hz6 := huP.size
            have hz7 := hq6.size
            have hz8 := hq1.size
            have hz77 : w3.heap.size ≤ w6.heap.size := by omega
            have hz78 := hz77
            rw [hw6] at own7 R6 hz7 hz77
            go_wp2_with (at_builtin; refine wpList_appendI Try.underlying22 itInfo rfl (.tmp 36) (.tmp 38) rfl rfl own7 rfl R6 (by rw [← hw6]; exact Bs.nil _) (by rw [← hw6]; exact KsL.nil _) (fun y hy => by simp at hy) (by rw [HXL.out]) (by omega) hz77 ?_; intro A8 c8 w8 own8 gr8 ob8 bel8 no8)
            have hb68 : Below w3.heap.size w6 w8 := by rw [hw6]; exact bel8
            have hi8 : InIs w8 w2.heap.size g (getIt I K).2 := by
              rw [HG.out]
              obtain ⟨q1, v9, q2, q3⟩ := hi6.step hq6
              exact ⟨q1, v9, q2.below hb68 (by omega), q3.keep (hb68.mono (by omega))⟩
            exact ⟨⟨k + 1, by omega, by go_num, by rw [HS2.out]; exact hi8, by rw [HS1.out, HG.out]; exact own8, (hbw5.trans (hq6.mono (by omega))).trans (hb68.mono (by omega)), Nat.le_trans hz78 hb68.size⟩, by simp [intOf]; omega⟩
      · have e : k = n := by omega
        have hall : decIn s ⟨b, 0⟩ = decK s b k := by
          have h1 := decK_in s b k (by rw [e, HN.out]; exact Nat.le_refl _)
          rw [List.take_of_length_le (by rw [e, HN.out]; exact Nat.le_refl _)] at h1
          exact h1
        have hxl := decK_len s b k
        have HA := Lib.hid hall
        subst e
        clear hall
        obtain ⟨Ao, co, rfl, -⟩ := own.slice
        rw [hxl] at own ⊢
        have hbb : Below w.heap.size w wr := hb02.trans (hb.mono hz02)
        by_cases he : endP (decK s b k).2 = 0
        · have ep : decP s b = ((decK s b k).1, 0) := by unfold decP; rw [if_pos HALL.out, HA.out, if_pos he]
          have EP := Lib.hid ep
          have j1 : (endP (decK s b k).2 != (0 : Int)) = false := by rw [he]; rfl
          have EN := inend_any w2.heap.size g _ _ hi
          obtain ⟨E, hE⟩ : ∃ E, E = endP (decK s b k).2 := ⟨_, rfl⟩
          rw [← hE] at j1 EN
          clear ep he hE
          go_wp2_with fail
          refine EN.mono ?_
          rintro e w5 ⟨rfl, rfl⟩
          go_wp2_with fail
          refine bodyPost_ret (results_tmp2 rfl _ _ _) rfl ?_
          exact ⟨_, by rw [EP.out]; rfl, by rw [EP.out]; exact own.its, hbb⟩
        · have ep : decP s b = ([], endP (decK s b k).2) := by unfold decP; rw [if_pos HALL.out, HA.out, if_neg he]
          have EP := Lib.hid ep
          have j1 : (endP (decK s b k).2 != (0 : Int)) = true := by simpa using he
          have EN := inend_any w2.heap.size g _ _ hi
          obtain ⟨E, hE⟩ : ∃ E, E = endP (decK s b k).2 := ⟨_, rfl⟩
          rw [← hE] at j1 EN EP
          clear ep he hE
          go_wp2_with fail
          refine EN.mono ?_
          rintro e w5 ⟨rfl, rfl⟩
          go_wp2_with fail
          refine bodyPost_ret (results_tmp2 rfl _ _ _) rfl ?_
          exact ⟨_, by rw [EP.out]; rfl, by rw [EP.out]; exact ItsL.nil _, hbb⟩
end
section
open Go.RowKit
theorem RInIs.no8 {w : World} {B g : Nat} {i : InP} (h : RInIs w B g i) : No8 w g := by
  obtain ⟨_, v, L, k, h1, h2, _⟩ := h
  obtain ⟨A, c, rfl, _⟩ := h2
  exact no8_row h1 (by simp)
set_option maxRecDepth 100000 in
set_option maxHeartbeats 6400000 in
theorem refdecode_any (v vb : Value) (s : List Int) (b : List UInt8) (w3 : World) (h : IntsL w3 v s) (hvb : Bs w3 vb b) (hn : s.length ≤ 1000) :
    Calls Try.prog 22 #[v, vb] w3 (DecTo s b w3) := by
  have HVB := Lib.hid hvb
  obtain ⟨Ab0, cb0, rfl, -⟩ := id hvb
  obtain ⟨A, c, rfl, hc, hel⟩ := h
  obtain ⟨n, hN⟩ : ∃ n, n = s.length := ⟨_, rfl⟩
  have HN := Lib.hid hN
  rw [← hN] at hc hn ⊢
  have HEL := Lib.hid hel
  clear hel hN hvb
  go_enter Try.func22, Try.ntmps22
  go_wp2_with fail
  go_loopw [6] (fun i wr => ∃ k : Nat, k ≤ n ∧ i = .int .i64 k ∧ Hid (∀ j, j < k → kindOk (nthZ s j) = true) ∧ wr = w3) (fun i _ => n - (intOf i).toNat)
  case atStart => exact ⟨0, by omega, rfl, Lib.hid (fun x hx => absurd hx (by omega)), rfl⟩
  case round =>
    obtain ⟨k, hk, rfl, hno, hwr⟩ := hrel
    subst hwr
    rename World => w3
    by_cases hlt : k < n
    · have hlt' : k < s.length := by rw [← HN.out]; exact hlt
      obtain ⟨g, o, rfl, hg, hit⟩ := HEL.out (by omega)
      have q0 := hit k hlt'
      have hk0 : (0 : Int) ≤ (k : Int) := by omega
      have hk1 : (k : Int) < (n : Int) := by omega
      obtain ⟨x, hx⟩ : ∃ x, x = nthZ s k := ⟨_, rfl⟩
      rw [← hx] at q0
      have HX := Lib.hid hx
      clear hit hx
      go_wp2_with fail
      refine (refkind_any x _).mono ?_
      rintro e w1 ⟨rfl, hww⟩
      subst hww
      cases hw' : kindOk x with
      | true =>
        have HW := Lib.hid hw'
        clear hw'
        go_wp2_with fail
        exact ⟨⟨k + 1, by omega, by go_num, Lib.hid (fun j hj => by
          rcases Nat.lt_or_ge j k with h | h
          · exact hno.out j h
          · obtain rfl : j = k := by omega
            rw [← HX.out]; exact HW.out), by first | rfl | trivial⟩, by simp [intOf]; omega⟩
      | false =>
        have hall := allz_not hlt' (by rw [← HX.out]; exact hw')
        have ep : decP s b = ([], 51) := by unfold decP; rw [hall]; rfl
        have EP := Lib.hid ep
        clear hw' hall ep
        go_wp2_with fail
        refine bodyPost_ret (results_tmp2 rfl _ _ _) rfl ?_
        exact ⟨_, by rw [EP.out]; rfl, by rw [EP.out]; exact ItsL.nil _, Below.refl _ _⟩
    · have e : k = n := by omega
      have hall := allz_yes (s := s) (fun j hj => hno.out j (by rw [e, HN.out]; exact hj))
      have HKN := Lib.hid e
      have HALL := Lib.hid hall
      subst e
      clear hall hno hlt HKN
      go_wp2_with fail
      obtain ⟨g, hg⟩ : ∃ g, g = w3.heap.size := ⟨_, rfl⟩
      have hin : RInIs (w3.alloc (.cells #[.slice Ab0 b.length cb0, .int .i64 0, .int .i64 0] 66)) w3.heap.size g ⟨b, 0⟩ :=
        ⟨by omega, _, b, 0, RowIs.new' hg, HVB.out.bsB.keep (by repeat (first | with_reducible exact Below.refl _ _ | with_reducible assumption | refine Below.drew ?_ | refine below_drewN ?_ | refine Below.alloc ?_ (by first | omega | (simp; done) | (simp; omega)) _ | refine below_setRow ?_ (by omega) _ | refine Below.setCell ?_ (by first | omega | (simp; done) | (simp; omega)) _)), Nat.zero_le _, fun _ => rfl, fun e => absurd rfl e⟩
      rw [← hg]
      have HGG := Lib.hid hg
      have hgl0 : g < w3.heap.size + 1 := by omega
      clear hg
      go_loopw [9, 10] (fun o i wr => ∃ j : Nat, j ≤ k ∧ i = .int .i64 j ∧ RInIs wr w3.heap.size g (decK s b j).2 ∧ OwnI 44 wr (w3.heap.size + 1) o (decK s b j).1 ∧ Below w3.heap.size w3 wr ∧ w3.heap.size + 1 ≤ wr.heap.size) (fun _ i _ => k - (intOf i).toNat)
      case atStart => exact ⟨0, Nat.zero_le _, rfl, hin, OwnI.nil _ _ _, (by repeat (first | with_reducible exact Below.refl _ _ | with_reducible assumption | refine Below.drew ?_ | refine below_drewN ?_ | refine Below.alloc ?_ (by first | omega | (simp; done) | (simp; omega)) _ | refine below_setRow ?_ (by omega) _ | refine Below.setCell ?_ (by first | omega | (simp; done) | (simp; omega)) _)), by simp⟩
      case round =>
        obtain ⟨j, hj, rfl, hi, own, hb, hz3⟩ := hrel
        clear hin
        have hgB := hi.1
        by_cases hlt : j < k
        · have hlt' : j < s.length := by rw [← HN.out]; exact hlt
          obtain ⟨gs, oo, rfl, hgs, hit⟩ := HEL.out (by omega)
          have q0 := (hb.cell (p := ⟨gs, oo + j, none⟩) hgs).trans (hit j hlt')
          have hko : kindOk (nthZ s j) = true := by
            have := HALL.out
            rw [List.all_eq_true] at this
            exact this _ (nthZ_mem hlt')
          have hs1 : (decK s b (j + 1)).1 = (decK s b j).1 ++ [(getIt (decK s b j).2 (nthZ s j)).1] := rfl
          have hs2 : (decK s b (j + 1)).2 = (getIt (decK s b j).2 (nthZ s j)).2 := rfl
          have hxl := decK_len s b j
          obtain ⟨X, hX⟩ : ∃ X, X = (decK s b j).1 := ⟨_, rfl⟩
          obtain ⟨I, hI⟩ : ∃ I, I = (decK s b j).2 := ⟨_, rfl⟩
          obtain ⟨K, hK⟩ : ∃ K, K = nthZ s j := ⟨_, rfl⟩
          rw [← hI] at hi
          rw [← hX] at own hxl
          rw [← hK] at q0 hko
          rw [← hX, ← hI, ← hK] at hs1
          rw [← hI, ← hK] at hs2
          have HS1 := Lib.hid hs1; have HS2 := Lib.hid hs2; have HXL := Lib.hid hxl
          have hk0 : (0 : Int) ≤ (j : Int) := by omega
          have hk1 : (j : Int) < (k : Int) := by omega
          obtain ⟨Ao, co, rfl, -⟩ := own.slice
          rw [hxl] at own ⊢
          obtain ⟨wx, hwxe⟩ : ∃ wx, wx = wr.alloc (.cells #[.int .i64 K, .int .u64 0, .slice none 0 0, .slice none 0 0] 44) := ⟨_, rfl⟩
          have hq1 : Below wr.heap.size wr wx := by rw [hwxe]; exact (by repeat (first | with_reducible exact Below.refl _ _ | with_reducible assumption | refine Below.drew ?_ | refine below_drewN ?_ | refine Below.alloc ?_ (by first | omega | (simp; done) | (simp; omega)) _ | refine below_setRow ?_ (by omega) _ | refine Below.setCell ?_ (by first | omega | (simp; done) | (simp; omega)) _))
          have hxr : RowIs wx wr.heap.size #[.int .i64 K, .int .u64 0, .slice none 0 0, .slice none 0 0] := by rw [hwxe]; exact RowIs.new _ _ _
          have hix := hi.step hq1
          have hownx := own.step hq1
          have q1 := (hq1.cell (p := ⟨gs, oo + j, none⟩) (Nat.lt_of_lt_of_le hgs hb.size)).trans q0
          have hlt3 : wr.heap.size < wx.heap.size := hxr.lt
          have hown1 : (Value.slice Ao j co).ownBlock ≠ some wr.heap.size := fun e => by have := (own.lt e).2; omega
          have hgw := hi.lt
          have q2 := q1
          rw [hwxe] at q2
          have HWX := Lib.hid hwxe
          clear hit hwxe hX hI hK hs1 hs2 hxl
          by_cases h9 : K = 9
          · have hget : getIt I K = (⟨K, 0, (ibytesP I 4000).1, []⟩, (ibytesP I 4000).2) := by unfold getIt; rw [if_pos h9]
            have HG := Lib.hid hget
            rw [h9] at q0 q1 q2 HWX hxr HG HS1 HS2
            clear hko hget h9 q1
            go_wp2_with fail
            rw [← HWX.out]
            refine (rbytes_any w3.heap.size g I 4000 _ hix).mono ?_
            rintro e w5' ⟨v5, rfl, hP, hi5, hu⟩
            obtain ⟨Av, nv, cv, rfl⟩ : IsSlice v5 := by obtain ⟨A, c, e, _⟩ := hP; exact ⟨_, _, _, e⟩
            have hx5 := hxr.upd hu (by omega)
            have own5 := hownx.upd hu hix.no8 (by omega)
            have hnx5 : No8 w5' wr.heap.size := no8_row hx5 (by simp)
            obtain ⟨p0, p1, p2, p3⟩ := it_cells hx5
            have f5 := hx5.fz 2
            have hx6 : RowIs (w5'.setCell ⟨wr.heap.size, 2, none⟩ (.slice Av nv cv)) wr.heap.size #[.int .i64 9, .int .u64 0, .slice Av nv cv, .slice none 0 0] := by simpa using hx5.put 2 (.slice Av nv cv)
            have huP : Upd wr.heap.size w5' (w5'.setCell ⟨wr.heap.size, 2, none⟩ (.slice Av nv cv)) := (Upd.refl _ _).put 2 _
            obtain ⟨w5, hw5⟩ : ∃ w5, w5 = w5'.setCell ⟨wr.heap.size, 2, none⟩ (.slice Av nv cv) := ⟨_, rfl⟩
            rw [← hw5] at hx6 huP
            have own6 := own5.updNe huP hnx5 hown1
            have hi6 := hi5.upd huP (by have := hb.size; omega) (by omega)
            obtain ⟨d0, d1, d2, d3⟩ := it_cells hx6
            obtain ⟨w6, hw6⟩ : ∃ w6, w6 = w5.alloc (.cells #[.int .i64 9, .int .u64 0, .slice Av nv cv, .slice none 0 0] 44) := ⟨_, rfl⟩
            have hq6 : Below w5.heap.size w5 w6 := by rw [hw6]; exact (by repeat (first | with_reducible exact Below.refl _ _ | with_reducible assumption | refine Below.drew ?_ | refine below_drewN ?_ | refine Below.alloc ?_ (by first | omega | (simp; done) | (simp; omega)) _ | refine below_setRow ?_ (by omega) _ | refine Below.setCell ?_ (by first | omega | (simp; done) | (simp; omega)) _))
            have R6 : RowIs w6 w5.heap.size (itC ⟨9, 0, (ibytesP I 4000).1, []⟩ (.slice Av nv cv) (.slice none 0 0)) := by
              rw [hw6]
              have := RowIs.new w5 #[.int .i64 9, .int .u64 0, .slice Av nv cv, .slice none 0 0] 44
              simpa [itC, n64_def] using this
            have hB6 : Bs w6 (.slice Av nv cv) (ibytesP I 4000).1 := ((hP.bs (by have := hb.size; have := hq1.size; have := hu.size; omega)).upd huP hnx5).step hq6
            have own7 := own6.step hq6
            have hbw : Below w3.heap.size w3 wx := hb.trans (hq1.mono hb.size)
            have hbw5 := huP.below (hu.below hbw (by omega) hbw.size) (by have := hb.size; omega) (Nat.le_trans hbw.size hu.size)
            have hz5 := hu.size
            have hz6 := huP.size
            have hz7 := hq6.size
            have hz8 := hq1.size
            have hz9 := hb.size
            have hz77 : w3.heap.size + 1 ≤ w6.heap.size := by omega
            have hz78 := hz77
            have HW5 := Lib.hid hw5
            have hsz55 : w5.heap.size = w5'.heap.size := by rw [hw5]; simp [World.setCell]
            rw [hsz55] at R6
            clear hsz55
            rw [hw6] at own7 R6 hz77
            rw [hw5] at own7 R6 hz77 d0 d1 d2 d3
            clear hw5
            go_wp2_with (at_builtin; refine wpList_appendI Try.underlying30 ritInfo rfl (.tmp 61) (.tmp 63) rfl rfl own7 rfl R6 (by rw [← HW5.out, ← hw6]; exact hB6) (by rw [← HW5.out, ← hw6]; exact KsL.nil _) (fun y hy => by simp at hy) (by rw [HXL.out]) (by omega) hz77 ?_; intro A8 c8 w8 own8 gr8 ob8 bel8 no8)
            have hb68 : Below (w3.heap.size + 1) w6 w8 := by rw [hw6, HW5.out]; exact bel8
            have hi8 : RInIs w8 w3.heap.size g (getIt I 9).2 := by
              rw [HG.out]
              obtain ⟨q1, v9, L9, a9, q2, q3, q4⟩ := hi6.step hq6
              exact ⟨q1, v9, L9, a9, q2.below hb68 (by omega), q3.keep (hb68.mono (by omega)), q4⟩
            exact ⟨⟨j + 1, by omega, by go_num, by rw [HS2.out]; exact hi8, by rw [HS1.out, HG.out]; exact own8, (hbw5.trans (hq6.mono (by omega))).trans (hb68.mono (by omega)), Nat.le_trans hz78 hb68.size⟩, by simp [intOf]; omega⟩
          · have f9 : (K == (9 : Int)) = false := by simpa using h9
            by_cases h32 : K = 32
            · have hget : getIt I K = (⟨K, 0, [], (ikeysP I 100).1⟩, (ikeysP I 100).2) := by unfold getIt; rw [if_neg h9, if_pos h32]
              have HG := Lib.hid hget
              have hks : ∀ y ∈ (ikeysP I 100).1, y.length = 32 := by unfold ikeysP; exact cutK_all _ _ (Nat.mul_div_le _ _)
              rw [h32] at q0 q1 q2 HWX hxr HG HS1 HS2
              clear hko hget h9 h32 f9 q1
              go_wp2_with fail
              rw [← HWX.out]
              refine (rkeys_any w3.heap.size g I 100 _ hix).mono ?_
              rintro e w5' ⟨v5, rfl, hP, hi5, hu⟩
              obtain ⟨Av, nv, cv, rfl⟩ := KsL.isSlice hP
              have hx5 := hxr.upd hu (by omega)
              have own5 := hownx.upd hu hix.no8 (by omega)
              have hnx5 : No8 w5' wr.heap.size := no8_row hx5 (by simp)
              obtain ⟨p0, p1, p2, p3⟩ := it_cells hx5
              have f5 := hx5.fz 3
              have hx6 : RowIs (w5'.setCell ⟨wr.heap.size, 3, none⟩ (.slice Av nv cv)) wr.heap.size #[.int .i64 32, .int .u64 0, .slice none 0 0, .slice Av nv cv] := by simpa using hx5.put 3 (.slice Av nv cv)
              have huP : Upd wr.heap.size w5' (w5'.setCell ⟨wr.heap.size, 3, none⟩ (.slice Av nv cv)) := (Upd.refl _ _).put 3 _
              obtain ⟨w5, hw5⟩ : ∃ w5, w5 = w5'.setCell ⟨wr.heap.size, 3, none⟩ (.slice Av nv cv) := ⟨_, rfl⟩
              rw [← hw5] at hx6 huP
              have own6 := own5.updNe huP hnx5 hown1
              have hi6 := hi5.upd huP (by have := hb.size; omega) (by omega)
              obtain ⟨d0, d1, d2, d3⟩ := it_cells hx6
              obtain ⟨w6, hw6⟩ : ∃ w6, w6 = w5.alloc (.cells #[.int .i64 32, .int .u64 0, .slice none 0 0, .slice Av nv cv] 44) := ⟨_, rfl⟩
              have hq6 : Below w5.heap.size w5 w6 := by rw [hw6]; exact (by repeat (first | with_reducible exact Below.refl _ _ | with_reducible assumption | refine Below.drew ?_ | refine below_drewN ?_ | refine Below.alloc ?_ (by first | omega | (simp; done) | (simp; omega)) _ | refine below_setRow ?_ (by omega) _ | refine Below.setCell ?_ (by first | omega | (simp; done) | (simp; omega)) _))
              have R6 : RowIs w6 w5.heap.size (itC ⟨32, 0, [], (ikeysP I 100).1⟩ (.slice none 0 0) (.slice Av nv cv)) := by
                rw [hw6]
                have := RowIs.new w5 #[.int .i64 32, .int .u64 0, .slice none 0 0, .slice Av nv cv] 44
                simpa [itC, n64_def] using this
              have hB6 : KsL w6 (.slice Av nv cv) (ikeysP I 100).1 := (hP.upd hks huP hnx5).step hq6
              have own7 := own6.step hq6
              have hbw : Below w3.heap.size w3 wx := hb.trans (hq1.mono hb.size)
              have hbw5 := huP.below (hu.below hbw (by omega) hbw.size) (by have := hb.size; omega) (Nat.le_trans hbw.size hu.size)
              have hz5 := hu.size
              have hz6 := huP.size
              have hz7 := hq6.size
              have hz8 := hq1.size
              have hz9 := hb.size
              have hz77 : w3.heap.size + 1 ≤ w6.heap.size := by omega
              have hz78 := hz77
              have HW5 := Lib.hid hw5
              have hsz55 : w5.heap.size = w5'.heap.size := by rw [hw5]; simp [World.setCell]
              rw [hsz55] at R6
              clear hsz55
              rw [hw6] at own7 R6 hz77
              rw [hw5] at own7 R6 hz77 d0 d1 d2 d3
              clear hw5
              go_wp2_with (at_builtin; refine wpList_appendI Try.underlying30 ritInfo rfl (.tmp 61) (.tmp 63) rfl rfl own7 rfl R6 (by rw [← HW5.out, ← hw6]; exact Bs.nil _) (by rw [← HW5.out, ← hw6]; exact hB6) hks (by rw [HXL.out]) (by omega) hz77 ?_; intro A8 c8 w8 own8 gr8 ob8 bel8 no8)
              have hb68 : Below (w3.heap.size + 1) w6 w8 := by rw [hw6, HW5.out]; exact bel8
              have hi8 : RInIs w8 w3.heap.size g (getIt I 32).2 := by
                rw [HG.out]
                obtain ⟨q1, v9, L9, a9, q2, q3, q4⟩ := hi6.step hq6
                exact ⟨q1, v9, L9, a9, q2.below hb68 (by omega), q3.keep (hb68.mono (by omega)), q4⟩
              exact ⟨⟨j + 1, by omega, by go_num, by rw [HS2.out]; exact hi8, by rw [HS1.out, HG.out]; exact own8, (hbw5.trans (hq6.mono (by omega))).trans (hb68.mono (by omega)), Nat.le_trans hz78 hb68.size⟩, by simp [intOf]; omega⟩
            · have f32 : (K == (32 : Int)) = false := by simpa using h32
              have hget : getIt I K = (⟨K, (inumP I K).1, [], []⟩, (inumP I K).2) := by unfold getIt; rw [if_neg h9, if_neg h32]
              have HG := Lib.hid hget
              clear hko hget h9 h32 q1
              go_wp2_with fail
              rw [← HWX.out]
              refine (rnum_any w3.heap.size g I K _ hix).mono ?_
              rintro e w5' ⟨rfl, hi5, hu⟩

              have hx5 := hxr.upd hu (by omega)
              have own5 := hownx.upd hu hix.no8 (by omega)
              have hnx5 : No8 w5' wr.heap.size := no8_row hx5 (by simp)
              obtain ⟨p0, p1, p2, p3⟩ := it_cells hx5
              have f5 := hx5.fz 1
              have hx6 : RowIs (w5'.setCell ⟨wr.heap.size, 1, none⟩ (.int .u64 (n64 (inumP I K).1))) wr.heap.size #[.int .i64 K, .int .u64 (n64 (inumP I K).1), .slice none 0 0, .slice none 0 0] := by simpa using hx5.put 1 (.int .u64 (n64 (inumP I K).1))
              have huP : Upd wr.heap.size w5' (w5'.setCell ⟨wr.heap.size, 1, none⟩ (.int .u64 (n64 (inumP I K).1))) := (Upd.refl _ _).put 1 _
              obtain ⟨w5, hw5⟩ : ∃ w5, w5 = w5'.setCell ⟨wr.heap.size, 1, none⟩ (.int .u64 (n64 (inumP I K).1)) := ⟨_, rfl⟩
              rw [← hw5] at hx6 huP
              have own6 := own5.updNe huP hnx5 hown1
              have hi6 := hi5.upd huP (by have := hb.size; omega) (by omega)
              obtain ⟨d0, d1, d2, d3⟩ := it_cells hx6
              obtain ⟨w6, hw6⟩ : ∃ w6, w6 = w5.alloc (.cells #[.int .i64 K, .int .u64 (n64 (inumP I K).1), .slice none 0 0, .slice none 0 0] 44) := ⟨_, rfl⟩
              have hq6 : Below w5.heap.size w5 w6 := by rw [hw6]; exact (by repeat (first | with_reducible exact Below.refl _ _ | with_reducible assumption | refine Below.drew ?_ | refine below_drewN ?_ | refine Below.alloc ?_ (by first | omega | (simp; done) | (simp; omega)) _ | refine below_setRow ?_ (by omega) _ | refine Below.setCell ?_ (by first | omega | (simp; done) | (simp; omega)) _))
              have R6 : RowIs w6 w5.heap.size (itC ⟨K, (inumP I K).1, [], []⟩ (.slice none 0 0) (.slice none 0 0)) := by
                rw [hw6]
                have := RowIs.new w5 #[.int .i64 K, .int .u64 (n64 (inumP I K).1), .slice none 0 0, .slice none 0 0] 44
                simpa [itC, n64_def] using this

              have own7 := own6.step hq6
              have hbw : Below w3.heap.size w3 wx := hb.trans (hq1.mono hb.size)
              have hbw5 := huP.below (hu.below hbw (by omega) hbw.size) (by have := hb.size; omega) (Nat.le_trans hbw.size hu.size)
              have hz5 := hu.size
              have hz6 := huP.size
              have hz7 := hq6.size
              have hz8 := hq1.size
              have hz9 := hb.size
              have hz77 : w3.heap.size + 1 ≤ w6.heap.size := by omega
              have hz78 := hz77
              have HW5 := Lib.hid hw5
              have hsz55 : w5.heap.size = w5'.heap.size := by rw [hw5]; simp [World.setCell]
              rw [hsz55] at R6
              clear hsz55
              rw [hw6] at own7 R6 hz77
              rw [hw5] at own7 R6 hz77 d0 d1 d2 d3
              clear hw5
              go_wp2_with (at_builtin; refine wpList_appendI Try.underlying30 ritInfo rfl (.tmp 61) (.tmp 63) rfl rfl own7 rfl R6 (by rw [← HW5.out, ← hw6]; exact Bs.nil _) (by rw [← HW5.out, ← hw6]; exact KsL.nil _) (fun y hy => by simp at hy) (by rw [HXL.out]) (by omega) hz77 ?_; intro A8 c8 w8 own8 gr8 ob8 bel8 no8)
              have hb68 : Below (w3.heap.size + 1) w6 w8 := by rw [hw6, HW5.out]; exact bel8
              have hi8 : RInIs w8 w3.heap.size g (getIt I K).2 := by
                rw [HG.out]
                obtain ⟨q1, v9, L9, a9, q2, q3, q4⟩ := hi6.step hq6
                exact ⟨q1, v9, L9, a9, q2.below hb68 (by omega), q3.keep (hb68.mono (by omega)), q4⟩
              exact ⟨⟨j + 1, by omega, by go_num, by rw [HS2.out]; exact hi8, by rw [HS1.out, HG.out]; exact own8, (hbw5.trans (hq6.mono (by omega))).trans (hb68.mono (by omega)), Nat.le_trans hz78 hb68.size⟩, by simp [intOf]; omega⟩
        · have e : j = k := by omega
          have hall : decIn s ⟨b, 0⟩ = decK s b j := by
            have h1 := decK_in s b j (by rw [e, HN.out]; exact Nat.le_refl _)
            rw [List.take_of_length_le (by rw [e, HN.out]; exact Nat.le_refl _)] at h1
            exact h1
          have hxl := decK_len s b j
          have HA := Lib.hid hall
          subst e
          clear hall
          obtain ⟨Ao, co, rfl, -⟩ := own.slice
          rw [hxl] at own ⊢
          have hd : ∀ W : World, Below W.heap.size W W.drew := fun W => (by repeat (first | with_reducible exact Below.refl _ _ | with_reducible assumption | refine Below.drew ?_ | refine below_drewN ?_ | refine Below.alloc ?_ (by first | omega | (simp; done) | (simp; omega)) _ | refine below_setRow ?_ (by omega) _ | refine Below.setCell ?_ (by first | omega | (simp; done) | (simp; omega)) _))
          by_cases he : endP (decK s b j).2 = 0
          · have ep : decP s b = ((decK s b j).1, 0) := by unfold decP; rw [if_pos HALL.out, HA.out, if_pos he]
            have EP := Lib.hid ep
            have j1 : (endP (decK s b j).2 != (0 : Int)) = false := by rw [he]; rfl
            have EN := rend_any w3.heap.size g _ _ hi
            obtain ⟨E, hE⟩ : ∃ E, E = endP (decK s b j).2 := ⟨_, rfl⟩
            rw [← hE] at j1 EN
            clear ep he hE
            go_wp2_with fail
            refine EN.mono ?_
            rintro e w5 ⟨rfl, rfl⟩
            go_wp2_with fail
            refine bodyPost_ret (results_tmp2 rfl _ _ _) rfl ?_
            exact ⟨_, by rw [EP.out]; rfl, by rw [EP.out]; exact own.its.step (hd _), hb.drew⟩
          · have ep : decP s b = ([], endP (decK s b j).2) := by unfold decP; rw [if_pos HALL.out, HA.out, if_neg he]
            have EP := Lib.hid ep
            have j1 : (endP (decK s b j).2 != (0 : Int)) = true := by simpa using he
            have EN := rend_any w3.heap.size g _ _ hi
            obtain ⟨E, hE⟩ : ∃ E, E = endP (decK s b j).2 := ⟨_, rfl⟩
            rw [← hE] at j1 EN EP
            clear ep he hE
            go_wp2_with fail
            refine EN.mono ?_
            rintro e w5 ⟨rfl, rfl⟩
            go_wp2_with fail
            refine bodyPost_ret (results_tmp2 rfl _ _ _) rfl ?_
            exact ⟨_, by rw [EP.out]; rfl, by rw [EP.out]; exact ItsL.nil _, hb.drew⟩
end
end Go.Proofs.Ytifnpphkplogaaa
