/- CodecDecodes: two lists of items held against each other; the walk of the statement's function. -/
import Derived.Test.YtifnpphkplogaaaAw9
import Derived.Test.YtifnpphkplogaaaItArg
namespace Go.Proofs.Ytifnpphkplogaaa
open Go.RowKit
theorem beq_self_int' (a : Int) : (a == a) = true := by simp
theorem bne_self_int (a : Int) : (a != a) = false := by simp
theorem ikeysP_len (i : InP) (most : Int) : (ikeysP i most).1.length ≤ 1000000 := by
  unfold ikeysP
  rw [cutK_length]
  have h1 := takeP_len (ilimP i most 100).2 (32 * (ilimP i most 100).1)
  have h2 := inum2_lt i
  have h3 : (ilimP i most 100).1 = (inumP i 2).1.toNat := rfl
  omega
/-- two places' cells -/
def TwoI (g o : Nat) (x : ItP) (vb vl : Value) (g' o' : Nat) (y : ItP) (ub ul : Value) (w : World) : Prop := ItAt w g o x vb vl ∧ ItAt w g' o' y ub ul ∧ g < w.heap.size ∧ g' < w.heap.size
theorem TwoI.step {g o g' o' : Nat} {x y : ItP} {vb vl ub ul : Value} {w w' : World} (h : TwoI g o x vb vl g' o' y ub ul w) (hb : Below w.heap.size w w') : TwoI g o x vb vl g' o' y ub ul w' :=
  ⟨h.1.step h.2.2.1 hb, h.2.1.step h.2.2.2 hb, Nat.lt_of_lt_of_le h.2.2.1 hb.size, Nat.lt_of_lt_of_le h.2.2.2 hb.size⟩
def AllAlike (xs ys : List ItP) : Prop := xs.length = ys.length ∧ ∀ i, i < xs.length → (nthI xs i).kind = (nthI ys i).kind ∧ (nthI xs i).n = (nthI ys i).n ∧ (nthI xs i).b = (nthI ys i).b ∧ (nthI xs i).l = (nthI ys i).l
set_option maxRecDepth 100000 in
set_option maxHeartbeats 3200000 in
/-- alike items are told alike -/
theorem alike_any (va vb : Value) (xs ys : List ItP) (w : World) (ha : ItsL w va xs) (hb : ItsL w vb ys) (hall : AllAlike xs ys) (hl : ∀ x ∈ xs, x.l.length ≤ 1000000) (hn : xs.length ≤ 1000) :
    Calls Try.prog 23 #[va, vb] w (TrueRes' w) := by
  obtain ⟨hlen, hsame⟩ := hall
  obtain ⟨A, c, rfl, hc, hA⟩ := ha
  obtain ⟨B, d, rfl, hd, hB⟩ := hb
  have HA := Lib.hid hA; have HB := Lib.hid hB
  have HS := Lib.hid hsame
  have HL := Lib.hid hl
  obtain ⟨n, hN⟩ : ∃ n, n = xs.length := ⟨_, rfl⟩
  have HN := Lib.hid hN
  have HM := Lib.hid (hN.trans hlen)
  rw [← hlen, ← hN] at hd ⊢
  rw [← hN] at hc hn
  clear hA hB hsame hlen hN hl
  have hbn := bne_self_int n
  go_enter Try.func23, Try.ntmps23
  go_wp2_with fail
  go_loopw [5] (fun i wr => ∃ k : Nat, k ≤ n ∧ i = .int .i64 k ∧ Below w.heap.size w wr) (fun i _ => n - (intOf i).toNat)
  case atStart => exact ⟨0, Nat.zero_le _, rfl, Below.refl _ _⟩
  case round =>
    obtain ⟨k, hk, rfl, hbw⟩ := hrel
    by_cases hlt : k < n
    · have hlt1 : k < xs.length := by rw [← HN.out]; exact hlt
      have hlt2 : k < ys.length := by rw [← HM.out]; exact hlt
      obtain ⟨g1, o1, rfl, hg1, hr1⟩ := HA.out (by omega)
      obtain ⟨g2, o2, rfl, hg2, hr2⟩ := HB.out (by omega)
      obtain ⟨xb, xl, it1⟩ := hr1 k hlt1
      obtain ⟨yb, yl, it2⟩ := hr2 k hlt2
      obtain ⟨e1, e2, e3, e4⟩ := HS.out k hlt1
      have hxl := HL.out _ (nthI_mem hlt1)
      obtain ⟨x, hx⟩ : ∃ x, x = nthI xs k := ⟨_, rfl⟩
      obtain ⟨y, hy⟩ : ∃ y, y = nthI ys k := ⟨_, rfl⟩
      rw [← hx] at it1 e1 e2 e3 e4 hxl
      rw [← hy] at it2 e1 e2 e3 e4
      have T0 : TwoI g1 (o1 + k * 4) x xb xl g2 (o2 + k * 4) y yb yl wr := ⟨it1.step hg1 hbw, it2.step hg2 hbw, Nat.lt_of_lt_of_le hg1 hbw.size, Nat.lt_of_lt_of_le hg2 hbw.size⟩
      have hd0 : Below wr.heap.size wr wr.drew := (by repeat (first | with_reducible exact Below.refl _ _ | with_reducible assumption | refine Below.drew ?_ | refine below_drewN ?_ | refine Below.alloc ?_ (by first | omega | (simp; done) | (simp; omega)) _ | refine below_setRow ?_ (by omega) _ | refine Below.setCell ?_ (by first | omega | (simp; done) | (simp; omega)) _))
      have T1 := T0.step hd0
      have f1 : ((x.kind : Int) != y.kind) = false := by rw [e1]; simp
      have f2 : (n64 x.n != n64 y.n) = false := by rw [e2]; simp
      have hk0 : (0 : Int) ≤ (k : Int) := by omega
      have hk1 : (k : Int) < (n : Int) := by omega
      have E3 := Lib.hid e3; have E4 := Lib.hid e4
      have hxk := it1.k
      have hyk := it2.k
      clear hr1 hr2 it1 it2 hx hy e1 e2 e3 e4
      go_wp2_with fail
      refine wp_region_lexS [] [4, 9, 16, 21, 29, 34, 43, 48] (TwoI g1 (o1 + k * 4) x xb xl g2 (o2 + k * 4) y yb yl) (by kernel_rfl) (by decide +kernel) T1 (fun hS => ?_)
      (go_wp2_with (first | (refine wpLexS_nil ?_) | (refine wpLexS_pure rfl (fun _ _ => ?_); go_simp; refine ⟨_, fun w9 hw9 => (by have s1 := hw9.1.c0; have s2 := hw9.1.c1; have s3 := hw9.1.c2; have s4 := hw9.1.c3; have s5 := hw9.2.1.c0; have s6 := hw9.2.1.c1; have s7 := hw9.2.1.c2; have s8 := hw9.2.1.c3; go_simp; rfl), ?_⟩) | (refine wpLexS_pure0 rfl (fun _ _ => ?_); go_simp; try go_bits) | (refine wpLexS_read rfl (fun _ _ => ?_); go_simp; try go_bits) | (refine wpLexS_loud rfl (fun KL hKL => ?_))))
      have hbd := hbw.trans (hd0.mono hbw.size)
      refine (refSame_bs hS.1.b hS.2.1.b).mono ?_
      rintro e w5 ⟨rfl, b5⟩
      rw [decide_eq_true E3.out]
      go_wp2_with fail
      refine hKL _ _ (hS.step b5) (fun hS5 => ?_)
      clear hKL
      (go_wp2_with (first | (refine wpLexS_nil ?_) | (refine wpLexS_pure rfl (fun _ _ => ?_); go_simp; refine ⟨_, fun w9 hw9 => (by have s1 := hw9.1.c0; have s2 := hw9.1.c1; have s3 := hw9.1.c2; have s4 := hw9.1.c3; have s5 := hw9.2.1.c0; have s6 := hw9.2.1.c1; have s7 := hw9.2.1.c2; have s8 := hw9.2.1.c3; go_simp; rfl), ?_⟩) | (refine wpLexS_pure0 rfl (fun _ _ => ?_); go_simp; try go_bits) | (refine wpLexS_read rfl (fun _ _ => ?_); go_simp; try go_bits) | (refine wpLexS_loud rfl (fun KL hKL => ?_))))
      refine (keys_cmp _ _ _ _ hS5.1.k hS5.2.1.k hxl (by rw [← E4.out]; exact hxl) _ hS5.1.l hS5.2.1.l).mono ?_
      rintro e w6 ⟨rfl, b6⟩
      rw [decide_eq_true E4.out]
      go_wp2_with fail
      refine hKL _ _ (hS5.step b6) (fun hS6 => ?_)
      clear hKL
      (go_wp2_with (first | (refine wpLexS_nil ?_) | (refine wpLexS_pure rfl (fun _ _ => ?_); go_simp; refine ⟨_, fun w9 hw9 => (by skip; go_simp; rfl), ?_⟩) | (refine wpLexS_pure0 rfl (fun _ _ => ?_); go_simp; try go_bits) | (refine wpLexS_read rfl (fun _ _ => ?_); go_simp; try go_bits) | (refine wpLexS_loud rfl (fun KL hKL => ?_))))
      exact ⟨⟨k + 1, by omega, by go_num, (hbd.trans (b5.mono hbd.size)).trans (b6.mono (Nat.le_trans hbd.size b5.size))⟩, by simp [intOf]; omega⟩
    · have e : k = n := by omega
      subst e
      go_wp2_with fail
      go_ret
      exact ⟨rfl, hbw⟩
theorem AllAlike.refl (xs : List ItP) : AllAlike xs xs := ⟨rfl, fun _ _ => ⟨rfl, rfl, rfl, rfl⟩⟩
theorem decK_l (s : List Int) (b : List UInt8) : ∀ k, ∀ x ∈ (decK s b k).1, x.l.length ≤ 1000000
  | 0, x, hx => by simp [decK] at hx
  | k + 1, x, hx => by
    rw [decK, List.mem_append] at hx
    rcases hx with hx | hx
    · exact decK_l s b k x hx
    · obtain rfl : x = _ := by simpa using hx
      unfold getIt
      split
      · simp
      · split
        · exact ikeysP_len _ _
        · simp
theorem decP_l (s : List Int) (b : List UInt8) : (∀ x ∈ (decP s b).1, x.l.length ≤ 1000000) ∧ (decP s b).1.length ≤ s.length := by
  have h := decK_in s b s.length (Nat.le_refl _)
  rw [List.take_length] at h
  unfold decP
  split
  · split
    · rw [h]; exact ⟨decK_l s b _, by rw [decK_len]; exact Nat.le_refl _⟩
    · simp
  · simp
set_option maxRecDepth 100000 in
set_option maxHeartbeats 1600000 in
theorem codecdecodes_any (v vb : Value) (s : List Int) (b : List UInt8) (w : World) (h : IntsL w v s) (hvb : Bs w vb b) (h20 : s.length ≤ 20) (h5 : b.length ≤ 5000) :
    Calls Try.prog 4 #[v, vb] w (TrueRes' w) := by
  have D1 := Lib.hid (fun W h hb => decode_any v vb s b W h hb (by omega))
  have D2 := Lib.hid (fun W h hb => refdecode_any v vb s b W h hb (by omega))
  unfold DecTo at D1 D2
  have hpl := decP_l s b
  obtain ⟨E, hE⟩ : ∃ E, E = (decP s b).2 := ⟨_, rfl⟩
  obtain ⟨X, hX⟩ : ∃ X, X = (decP s b).1 := ⟨_, rfl⟩
  rw [← hE, ← hX] at D1 D2
  rw [← hX] at hpl
  obtain ⟨hXl, hXn⟩ := hpl
  have hEE := beq_self_int' E
  have HXL := Lib.hid hXl
  clear hE hX hXl
  have H := Lib.hid h; have HB := Lib.hid hvb
  obtain ⟨A, c, rfl, -⟩ := h
  obtain ⟨Ab, cb, rfl, -⟩ := hvb
  have i1 : ¬ (20 : Int) < s.length := by omega
  have i2 : ¬ (5000 : Int) < b.length := by omega
  go_enter Try.func4, Try.ntmps4
  go_wp2_with fail
  refine (awake9_any _).mono ?_
  rintro e w1 ⟨rfl, b1⟩
  have z1 := H.out.step b1
  have y1 := HB.out.step b1
  go_wp2_with fail
  refine (D1.out _ z1 y1).mono ?_
  rintro e w2 ⟨u1, rfl, hu1, b2⟩
  replace z1 := z1.step b2
  replace y1 := y1.step b2
  have hb2 := b1.trans (b2.mono b1.size)
  go_wp2_with fail
  refine (D2.out _ z1 y1).mono ?_
  rintro e w3 ⟨u2, rfl, hu2, b3⟩
  replace hu1 := hu1.step b3
  have hb3 := hb2.trans (b3.mono hb2.size)
  clear z1 y1 b1 b2 b3 hb2 D1 D2
  go_wp2_with fail
  refine (doc_any u1 X _ hu1 (by omega)).mono ?_
  rintro e w4 ⟨u3, rfl, hu3, b4⟩
  replace hu2 := hu2.step b4
  have hb4 := hb3.trans (b4.mono hb3.size)
  go_wp2_with fail
  refine (alike_any u3 u2 X X _ hu3 hu2 (AllAlike.refl X) HXL.out (by omega)).mono ?_
  rintro e w5 ⟨rfl, b5⟩
  go_wp2_with fail
  go_ret
  exact ⟨by simp, hb4.trans (b5.mono hb4.size)⟩
theorem walk_CodecDecodes (v : Value) (s : List Int) (Ab : Option Addr) (cb : Nat) (b : List UInt8) (w : World) (h : IntsL w v s) (hc : b.length ≤ cb) (hr : Rd8 w w.heap.size Ab b) :
    Calls Try.prog 4 #[v, .slice Ab b.length cb] w (TrueRes' w) := by
  by_cases h20 : 20 < s.length
  · obtain ⟨A, c, rfl, -⟩ := h
    have i1 : (20 : Int) < s.length := by omega
    go_enter Try.func4, Try.ntmps4
    go_wp2_with fail
    refine (awake9_any _).mono ?_
    rintro e w1 ⟨rfl, b1⟩
    go_wp2_with fail
    go_ret
    exact ⟨rfl, b1⟩
  · by_cases h5 : 5000 < b.length
    · obtain ⟨A, c, rfl, -⟩ := h
      have i1 : ¬ (20 : Int) < s.length := by omega
      have i2 : (5000 : Int) < b.length := by omega
      go_enter Try.func4, Try.ntmps4
      go_wp2_with fail
      refine (awake9_any _).mono ?_
      rintro e w1 ⟨rfl, b1⟩
      go_wp2_with fail
      go_ret
      exact ⟨rfl, b1⟩
    · exact codecdecodes_any v _ s b w h (Bs.of hc (by omega) hr) (by omega) (by omega)
end Go.Proofs.Ytifnpphkplogaaa
