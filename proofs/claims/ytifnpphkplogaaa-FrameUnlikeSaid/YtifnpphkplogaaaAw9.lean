/- Layer 9: the chapter's examples. -/
import Derived.Test.YtifnpphkplogaaaDecW
namespace Go.Proofs.Ytifnpphkplogaaa
open Go.RowKit
def TrueRes' (w : World) (e : Ending) (w' : World) : Prop := e = .returned (.bool true) ∧ Below w.heap.size w w'
theorem row_cell {w : World} {g : Nat} {cs : Array Value} (h : RowIs w g cs) (j : Nat) : w.cell? ⟨g, j, none⟩ = cs[j]? := by
  obtain ⟨t, ht⟩ := h.row.heap
  rw [h.has] at ht
  exact cell_of_row w g j _ t (0, 0) ht
theorem IntsL.row {w : World} {g n : Nat} {s : List Int} (hn : s.length = n) (h : RowIs w g (s.map fun k => Value.int .i64 k).toArray) : IntsL w (.slice (some ⟨g, 0, none⟩) n n) s := by
  subst hn
  refine ⟨_, _, rfl, Nat.le_refl _, fun _ => ⟨g, 0, rfl, h.lt, fun i hi => ?_⟩⟩
  rw [Nat.zero_add, row_cell h i]
  simp [hi, nthZ_get hi]
theorem ItsL.lit1 {w : World} {g : Nat} {x : ItP} {vb vl : Value} (h : RowIs w g (itC x vb vl)) (hb : Bs w vb x.b) (hl : KsL w vl x.l) (hk : itKeys x) : ItsL w (.slice (some ⟨g, 0, none⟩) 1 1) [x] := by
  refine ⟨_, _, rfl, Nat.le_refl _, fun _ => ⟨g, 0, rfl, h.lt, fun i hi => ?_⟩⟩
  obtain rfl : i = 0 := by simpa using hi
  have e : nthI [x] 0 = x := by rw [nthI_def]; rfl
  rw [e]
  exact ⟨vb, vl, by rw [row_cell h]; rfl, by rw [row_cell h]; rfl, by rw [row_cell h]; rfl, by rw [row_cell h]; rfl, hb, hl, hk⟩
theorem ItsL.lit2 {w : World} {g : Nat} {x y : ItP} {vb vl ub ul : Value} (h : RowIs w g #[.int .i64 x.kind, .int .u64 (n64 x.n), vb, vl, .int .i64 y.kind, .int .u64 (n64 y.n), ub, ul]) (hb : Bs w vb x.b) (hl : KsL w vl x.l) (hk : itKeys x) (gb : Bs w ub y.b) (gl : KsL w ul y.l) (gk : itKeys y) : ItsL w (.slice (some ⟨g, 0, none⟩) 2 2) [x, y] := by
  refine ⟨_, _, rfl, Nat.le_refl _, fun _ => ⟨g, 0, rfl, h.lt, fun i hi => ?_⟩⟩
  have e0 : nthI [x, y] 0 = x := by rw [nthI_def]; rfl
  have e1 : nthI [x, y] 1 = y := by rw [nthI_def]; rfl
  have hi2 : i = 0 ∨ i = 1 := by simp at hi; omega
  rcases hi2 with rfl | rfl
  · rw [e0]
    exact ⟨vb, vl, by rw [row_cell h]; rfl, by rw [row_cell h]; rfl, by rw [row_cell h]; rfl, by rw [row_cell h]; rfl, hb, hl, hk⟩
  · rw [e1]
    exact ⟨ub, ul, by rw [row_cell h]; rfl, by rw [row_cell h]; rfl, by rw [row_cell h]; rfl, by rw [row_cell h]; rfl, gb, gl, gk⟩
def aw1 : List ItP := [⟨2, 258, [], []⟩, ⟨9, 0, [7, 8], []⟩]
def aw2 : List UInt8 := [1, 2, 0, 2, 7, 8]
theorem aw_enc : encP aw1 = (aw2, 0) := by decide +kernel
theorem aw_dec2 : (decP [2, 9] aw2).2 = 0 := by decide +kernel
theorem aw_len : (decP [2, 9] aw2).1.length = 2 := by decide +kernel
theorem aw_n : (nthI (decP [2, 9] aw2).1 0).n = 258 := by decide +kernel
theorem aw_b : (nthI (decP [2, 9] aw2).1 1).b = [7, 8] := by decide +kernel
theorem aw_tail : (decP [2] aw2).2 = 50 := by decide +kernel
theorem aw_short : (decP [2, 9, 1] aw2).2 = 3 := by decide +kernel
theorem aw_shape : (encP [⟨1, 256, [], []⟩]).2 = 51 := by decide +kernel
theorem aw1_ok : ∀ x ∈ aw1, itSmall x ∧ itKeys x := by
  intro x hx
  simp only [aw1, List.mem_cons, List.not_mem_nil, or_false] at hx
  rcases hx with rfl | rfl
  · exact ⟨⟨by simp, by simp⟩, fun k hk => by simp at hk⟩
  · exact ⟨⟨by simp, by simp⟩, fun k hk => by simp at hk⟩
theorem aw3_ok : ∀ x ∈ ([⟨1, 256, [], []⟩] : List ItP), itSmall x ∧ itKeys x := by
  intro x hx
  simp only [List.mem_cons, List.not_mem_nil, or_false] at hx
  subst hx
  exact ⟨⟨by simp, by simp⟩, fun k hk => by simp at hk⟩
theorem u8s78 : #[Value.int .u8 7, .int .u8 8] = u8s [7, 8] := by rw [u8s_def]; simp [n8_def]
theorem u8saw2 : #[Value.int .u8 1, .int .u8 2, .int .u8 0, .int .u8 2, .int .u8 7, .int .u8 8] = u8s aw2 := by rw [u8s_def]; simp [n8_def, aw2]
set_option maxRecDepth 100000 in
set_option maxHeartbeats 3200000 in
theorem awake9_any (w : World) : Calls Try.prog 15 #[] w (TrueRes' w) := by
  have E1 := fun v W h => encode_any v aw1 W h (by decide) aw1_ok
  have E2 := fun v W h => encode_any v [⟨1, 256, [], []⟩] W h (by decide) aw3_ok
  unfold EncTo at E1 E2
  rw [aw_enc] at E1
  rw [aw_shape] at E2
  have D1 := fun v vb W h hb => decode_any v vb [2, 9] aw2 W h hb (by decide)
  have D2 := fun v vb W h hb => decode_any v vb [2] aw2 W h hb (by decide)
  have D3 := fun v vb W h hb => decode_any v vb [2, 9, 1] aw2 W h hb (by decide)
  unfold DecTo at D1 D2 D3
  rw [aw_dec2] at D1
  rw [aw_tail] at D2
  rw [aw_short] at D3
  have H1 := Lib.hid E1; have H2 := Lib.hid E2; have G1 := Lib.hid D1; have G2 := Lib.hid D2; have G3 := Lib.hid D3
  clear E1 E2 D1 D2 D3
  have q1 : Below w.heap.size w ((w.alloc (.cells #[.int .u8 7, .int .u8 8] 5)).alloc (.cells #[.int .i64 2, .int .u64 258, .slice none 0 0, .slice none 0 0, .int .i64 9, .int .u64 0, .slice (some ⟨w.heap.size, 0, none⟩) 2 2, .slice none 0 0] 43)) := (by repeat (first | with_reducible exact Below.refl _ _ | with_reducible assumption | refine Below.drew ?_ | refine below_drewN ?_ | refine Below.alloc ?_ (by first | omega | (simp; done) | (simp; omega)) _ | refine below_setRow ?_ (by omega) _ | refine Below.setCell ?_ (by first | omega | (simp; done) | (simp; omega)) _))
  have R78 : RowIs ((w.alloc (.cells #[.int .u8 7, .int .u8 8] 5)).alloc (.cells #[.int .i64 2, .int .u64 258, .slice none 0 0, .slice none 0 0, .int .i64 9, .int .u64 0, .slice (some ⟨w.heap.size, 0, none⟩) 2 2, .slice none 0 0] 43)) w.heap.size (u8s [7, 8]) := by
    rw [← u8s78]; exact (RowIs.new _ _ _).alloc _
  have I1 : ItsL ((w.alloc (.cells #[.int .u8 7, .int .u8 8] 5)).alloc (.cells #[.int .i64 2, .int .u64 258, .slice none 0 0, .slice none 0 0, .int .i64 9, .int .u64 0, .slice (some ⟨w.heap.size, 0, none⟩) 2 2, .slice none 0 0] 43)) (.slice (some ⟨w.heap.size + 1, 0, none⟩) 2 2) aw1 :=
    ItsL.lit2 (x := ⟨2, 258, [], []⟩) (y := ⟨9, 0, [7, 8], []⟩) (by rw [n64_def, n64_def]; exact RowIs.new' (by simp)) (Bs.nil _) (KsL.nil _) (fun y hy => by simp at hy) (Bs.row R78 2 2 rfl (by omega) (by omega)) (KsL.nil _) (fun y hy => by simp at hy)
  go_enter Try.func15, Try.ntmps15
  go_wp2_with fail
  refine (H1.out _ _ I1).mono ?_
  rintro e w3 ⟨u1, rfl, hu1, b3⟩
  have hb3 := q1.trans (b3.mono q1.size)
  clear R78 I1 q1 b3 H1
  go_wp2_with fail
  have q4 : Below w3.heap.size w3 ((w3.alloc (.cells #[.int .u8 1, .int .u8 2, .int .u8 0, .int .u8 2, .int .u8 7, .int .u8 8] 5)).alloc (.cells #[.int .i64 2, .int .i64 9] 3)) := (by repeat (first | with_reducible exact Below.refl _ _ | with_reducible assumption | refine Below.drew ?_ | refine below_drewN ?_ | refine Below.alloc ?_ (by first | omega | (simp; done) | (simp; omega)) _ | refine below_setRow ?_ (by omega) _ | refine Below.setCell ?_ (by first | omega | (simp; done) | (simp; omega)) _))
  have W4 : Bs ((w3.alloc (.cells #[.int .u8 1, .int .u8 2, .int .u8 0, .int .u8 2, .int .u8 7, .int .u8 8] 5)).alloc (.cells #[.int .i64 2, .int .i64 9] 3)) (.slice (some ⟨w3.heap.size, 0, none⟩) 6 6) aw2 :=
    Bs.row (by rw [← u8saw2]; exact (RowIs.new _ _ _).alloc _) 6 6 rfl (by omega) (by omega)
  have Z4 : IntsL ((w3.alloc (.cells #[.int .u8 1, .int .u8 2, .int .u8 0, .int .u8 2, .int .u8 7, .int .u8 8] 5)).alloc (.cells #[.int .i64 2, .int .i64 9] 3)) (.slice (some ⟨w3.heap.size + 1, 0, none⟩) 2 2) [2, 9] :=
    IntsL.row rfl (RowIs.new' (by simp))
  refine (G1.out _ _ _ Z4 W4).mono ?_
  rintro e w5 ⟨u2, rfl, hu2, b5⟩
  have b35 := q4.trans (b5.mono q4.size)
  replace hu1 := hu1.step b35
  replace W4 := W4.step b5
  have hb5 := hb3.trans (b35.mono hb3.size)
  obtain ⟨A2, c2, rfl, hc2, hel2⟩ := id hu2
  have hl2 := aw_len
  rw [hl2] at hc2 hel2 ⊢
  obtain ⟨g2, o2, rfl, hg2, hit2⟩ := hel2 (by omega)
  obtain ⟨xb, xl, it0⟩ := hit2 0 (by omega)
  obtain ⟨yb, yl, it1⟩ := hit2 1 (by omega)
  have n0 := it0.c1
  have y1 := it1.c2
  have yB := it1.b
  rw [aw_n] at n0
  rw [aw_b] at yB
  clear q4 Z4 b35 b5 hel2 hit2 it0 it1 hu2 hb3 G1 hl2
  go_wp2_with fail
  have q6 : Below w5.heap.size w5 (w5.alloc (.cells #[.int .i64 2] 3)) := (by repeat (first | with_reducible exact Below.refl _ _ | with_reducible assumption | refine Below.drew ?_ | refine below_drewN ?_ | refine Below.alloc ?_ (by first | omega | (simp; done) | (simp; omega)) _ | refine below_setRow ?_ (by omega) _ | refine Below.setCell ?_ (by first | omega | (simp; done) | (simp; omega)) _))
  have Z6 : IntsL (w5.alloc (.cells #[.int .i64 2] 3)) (.slice (some ⟨w5.heap.size, 0, none⟩) 1 1) [2] := IntsL.row rfl (RowIs.new _ _ _)
  refine (G2.out _ _ _ Z6 (W4.step q6)).mono ?_
  rintro e w7 ⟨u3, rfl, -, b7⟩
  have b57 := q6.trans (b7.mono q6.size)
  have q8 : Below w7.heap.size w7 (w7.alloc (.cells #[.int .i64 2, .int .i64 9, .int .i64 1] 3)) := (by repeat (first | with_reducible exact Below.refl _ _ | with_reducible assumption | refine Below.drew ?_ | refine below_drewN ?_ | refine Below.alloc ?_ (by first | omega | (simp; done) | (simp; omega)) _ | refine below_setRow ?_ (by omega) _ | refine Below.setCell ?_ (by first | omega | (simp; done) | (simp; omega)) _))
  have Z8 : IntsL (w7.alloc (.cells #[.int .i64 2, .int .i64 9, .int .i64 1] 3)) (.slice (some ⟨w7.heap.size, 0, none⟩) 3 3) [2, 9, 1] := IntsL.row rfl (RowIs.new _ _ _)
  clear q6 Z6 b7 G2
  go_wp2_with fail
  refine (G3.out _ _ _ Z8 ((W4.step b57).step q8)).mono ?_
  rintro e w9 ⟨u4, rfl, -, b9⟩
  have b59 := b57.trans ((q8.trans (b9.mono q8.size)).mono b57.size)
  have qA : Below w9.heap.size w9 (w9.alloc (.cells #[.int .i64 1, .int .u64 256, .slice none 0 0, .slice none 0 0] 43)) := (by repeat (first | with_reducible exact Below.refl _ _ | with_reducible assumption | refine Below.drew ?_ | refine below_drewN ?_ | refine Below.alloc ?_ (by first | omega | (simp; done) | (simp; omega)) _ | refine below_setRow ?_ (by omega) _ | refine Below.setCell ?_ (by first | omega | (simp; done) | (simp; omega)) _))
  have IA : ItsL (w9.alloc (.cells #[.int .i64 1, .int .u64 256, .slice none 0 0, .slice none 0 0] 43)) (.slice (some ⟨w9.heap.size, 0, none⟩) 1 1) [⟨1, 256, [], []⟩] :=
    ItsL.lit1 (x := ⟨1, 256, [], []⟩) (by unfold itC; rw [n64_def]; exact RowIs.new _ _ _) (Bs.nil _) (KsL.nil _) (fun y hy => by simp at hy)
  clear q8 Z8 b9 b57 G3
  go_wp2_with fail
  refine (H2.out _ _ IA).mono ?_
  rintro e wB ⟨u5, rfl, -, bB⟩
  have b5B := b59.trans ((qA.trans (bB.mono qA.size)).mono b59.size)
  replace hu1 := hu1.step b5B
  replace W4 := W4.step b5B
  replace yB := yB.step b5B
  have hgB : g2 < w5.heap.size := hg2
  replace n0 := (b5B.cell (p := ⟨g2, o2 + 0 * 4 + 1, none⟩) hg2).trans n0
  replace y1 := (b5B.cell (p := ⟨g2, o2 + 1 * 4 + 2, none⟩) hg2).trans y1
  have hbB := hb5.trans (b5B.mono hb5.size)
  clear qA IA bB b59 H2 hb5
  go_wp2_with fail
  refine (refSame_bs hu1 W4).mono ?_
  rintro e wC ⟨rfl, bC⟩
  replace yB := yB.step bC
  have hgC := Nat.lt_of_lt_of_le hg2 b5B.size
  replace n0 := (bC.cell (p := ⟨g2, o2 + 0 * 4 + 1, none⟩) hgC).trans n0
  replace y1 := (bC.cell (p := ⟨g2, o2 + 1 * 4 + 2, none⟩) hgC).trans y1
  have hbC := hbB.trans (bC.mono hbB.size)
  obtain ⟨Ay, cy, rfl, -⟩ := id yB
  rw [show n64 258 = 258 by rw [n64_def]; rfl, show o2 + 0 * 4 + 1 = o2 + 1 by omega] at n0
  rw [show o2 + 1 * 4 + 2 = o2 + 4 + 2 by omega] at y1
  clear bC hbB
  go_wp2_with fail
  have qD : Below wC.heap.size wC (wC.alloc (.cells #[.int .u8 7, .int .u8 8] 5)) := (by repeat (first | with_reducible exact Below.refl _ _ | with_reducible assumption | refine Below.drew ?_ | refine below_drewN ?_ | refine Below.alloc ?_ (by first | omega | (simp; done) | (simp; omega)) _ | refine below_setRow ?_ (by omega) _ | refine Below.setCell ?_ (by first | omega | (simp; done) | (simp; omega)) _))
  have RD : RowIs (wC.alloc (.cells #[.int .u8 7, .int .u8 8] 5)) wC.heap.size (u8s [7, 8]) := by rw [← u8s78]; exact RowIs.new _ _ _
  refine (refSame_bs (yB.step qD) (Bs.row RD 2 2 rfl (by omega) (by omega))).mono ?_
  rintro e wE ⟨rfl, bE⟩
  go_wp2_with fail
  go_ret
  exact ⟨by simp, hbC.trans ((qD.trans (bE.mono qD.size)).mono hbC.size)⟩
end Go.Proofs.Ytifnpphkplogaaa
