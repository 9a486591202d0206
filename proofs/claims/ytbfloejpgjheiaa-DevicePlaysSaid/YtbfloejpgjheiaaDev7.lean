/- Layer 11, its law's own: all that is read of a device; a row of things to do; what is made of it. -/
import Derived.Test.YtbfloejpgjheiaaDev6
import Derived.Test.YtbfloejpgjheiaaOctBs
namespace Go.Proofs.Ytbfloejpgjheiaa
open Go.RowKit
theorem sect_take (l : List UInt8) (k : Nat) : l.take (256 * k) ++ sect l k = l.take (256 * (k + 1)) := by
  rw [sect_def, show 256 * (k + 1) = 256 * k + 256 by omega, List.take_add]
set_option maxRecDepth 100000 in
set_option maxHeartbeats 800000 in
theorem all_any (L : DL) (d : Dv) (w : World) (h : Dev w L d) (h8 : d.n = 8) : Calls Try.prog 11 #[.pointer (some ⟨L.g, 0, none⟩)] w (OwnRes 5 w d.seen) := by
  have hl : d.seen.length = 2048 := by rw [h.ok.seen, h8]
  have HL := Lib.hid hl
  have H8 := Lib.hid h8
  clear hl h8
  go_enter Try.func11, Try.ntmps11
  go_wp2_with fail
  go_loopw [3, 4] (fun v i wr => ∃ j : Nat, j ≤ 8 ∧ i = .int .i64 j ∧ Own8 5 wr w.heap.size v (d.seen.take (256 * j)) ∧ Below w.heap.size w wr) (fun _ i _ => 8 - (intOf i).toNat)
  case atStart => exact ⟨0, by omega, rfl, by simpa using Own8.nil _ _ _, Below.refl _ _⟩
  case round =>
    obtain ⟨j, hj, rfl, hown, hb⟩ := hrel
    have hsz : w.heap.size ≤ wr.heap.size := hb.size
    by_cases hlt : j < 8
    · have hj0 : (0 : Int) ≤ (j : Int) := by omega
      have hj1 : (j : Int) < 8 := by omega
      go_wp2_with fail
      refine (read_any L d j wr (h.step hb)).mono ?_
      rintro e w1 ⟨-, hR⟩
      obtain ⟨v1, rfl, hbs, hb1, -⟩ := hR hj0 (by rw [H8.out]; exact hj1)
      rw [Int.toNat_natCast] at hbs
      replace hown := hown.step hb1
      replace hb := hb.trans (hb1.mono hsz)
      have hst := sect_take d.seen j
      obtain ⟨N, hN⟩ : ∃ N, (d.seen.take (256 * (j + 1))).length = N := ⟨_, rfl⟩
      have hN2 : N = 256 * (j + 1) := by rw [← hN, List.length_take, HL.out]; omega
      have HST := Lib.hid hst
      have HN := Lib.hid hN
      have hs1 := hb1.size
      have HB := Lib.hid hb
      clear hst hN hb hb1 hj1 hj0
      go_wp2_with (at_builtin; refine wpList_appendBs Try.underlying29 Try.info8 rfl (.tmp 17) (.tmp 18) rfl w.heap.size rfl hown rfl hbs HST.out HN.out (by omega) (by omega) ?_; intro A' c' w' own1 bel1)
      rw [hN2] at own1
      exact ⟨⟨j + 1, by omega, by go_num, own1, HB.out.trans bel1⟩, by simp [intOf]; omega⟩
    · rw [List.take_of_length_le (by rw [HL.out]; omega)] at hown
      go_wp2_with fail
      go_ret
      exact OwnRes.mk hown hb
/-- one thing to do, as it comes in -/
structure OpV where
  k : Int
  n : Int
  bA : Option Addr
  bc : Nat
  b : List UInt8
  tA : Option Addr
  tc : Nat
  t : List Bool
structure OpV.At (w : World) (B : Nat) (g o : Nat) (x : OpV) : Prop where
  k : w.cell? ⟨g, o, none⟩ = some (.int .i64 x.k)
  n : w.cell? ⟨g, o + 1, none⟩ = some (.int .i64 x.n)
  b : w.cell? ⟨g, o + 2, none⟩ = some (.slice x.bA x.b.length x.bc)
  t : w.cell? ⟨g, o + 3, none⟩ = some (.slice x.tA x.t.length x.tc)
  bc : x.b.length ≤ x.bc
  br : Rd8 w B x.bA x.b
  tc : x.t.length ≤ x.tc
  tr : RdB w B x.tA x.t
  lo : -9223372036854775808 ≤ x.n
  hi : x.n ≤ 9223372036854775807
def op0 : OpV := ⟨0, 0, none, 0, [], none, 0, []⟩
/-- a row of things to do, that is only read -/
def RdOps (w : World) (B : Nat) (A : Option Addr) (ops : List OpV) : Prop := 0 < ops.length → ∃ g o, A = some ⟨g, o, none⟩ ∧ g < B ∧ ∀ i, i < ops.length → OpV.At w B g (o + i * 4) (ops.getD i op0)
theorem Rd8.stepB {w w' : World} {B : Nat} {A : Option Addr} {l : List UInt8} (h : Rd8 w B A l) (hb : Below B w w') : Rd8 w' B A l := fun h0 => by
  obtain ⟨g, o, rfl, hg, hc⟩ := h h0
  exact ⟨g, o, rfl, hg, fun j hj => by rw [hb.cell (show g < B from hg)]; exact hc j hj⟩
theorem RdB.more {w : World} {B B' : Nat} {A : Option Addr} {l : List Bool} (h : RdB w B A l) (hB : B ≤ B') : RdB w B' A l := fun h0 => by
  obtain ⟨g, o, rfl, hg, hc⟩ := h h0
  exact ⟨g, o, rfl, by omega, hc⟩
theorem OpV.At.step {w w' : World} {B g o : Nat} {x : OpV} (h : OpV.At w B g o x) (hb : Below B w w') (hg : g < B) : OpV.At w' B g o x :=
  ⟨by rw [hb.cell (show g < B from hg)]; exact h.k, by rw [hb.cell (show g < B from hg)]; exact h.n, by rw [hb.cell (show g < B from hg)]; exact h.b, by rw [hb.cell (show g < B from hg)]; exact h.t, h.bc, h.br.stepB hb, h.tc, h.tr.step hb, h.lo, h.hi⟩
theorem RdOps.step {w w' : World} {B : Nat} {A : Option Addr} {ops : List OpV} (h : RdOps w B A ops) (hb : Below B w w') : RdOps w' B A ops := fun h0 => by
  obtain ⟨g, o, rfl, hg, hc⟩ := h h0
  exact ⟨g, o, rfl, hg, fun i hi => (hc i hi).step hb hg⟩
theorem Rd8.apart {w : World} {B : Nat} {A : Option Addr} {l : List UInt8} (h : Rd8 w B A l) (L : DL) (hL : ∀ k, L.has k → B ≤ k) : 0 < l.length → ∀ g o, A = some ⟨g, o, none⟩ → ¬ L.has g := by
  intro h0 g' o' e hk
  obtain ⟨g, o, rfl, hg, _⟩ := h h0
  injection e with e
  injection e with e
  have := hL g' hk
  omega
theorem RdB.apart {w : World} {B : Nat} {A : Option Addr} {l : List Bool} (h : RdB w B A l) (L : DL) (hL : ∀ k, L.has k → B ≤ k) : 0 < l.length → ∀ g o, A = some ⟨g, o, none⟩ → ¬ L.has g := by
  intro h0 g' o' e hk
  obtain ⟨g, o, rfl, hg, _⟩ := h h0
  injection e with e
  injection e with e
  have := hL g' hk
  omega
/-- what a device's turn needs of the world it began in -/
theorem DevTo.at {L L' : DL} {d : Dv} {a b c : World} {B : Nat} (hb : Below B a b) (h : DevTo L L' d b c) (hL : ∀ k, L.has k → B ≤ k) (hB : B ≤ b.heap.size) : Below B a c ∧ ∀ k, L'.has k → B ≤ k :=
  ⟨h.upx.below hb hL hB, fun k hk => by
    rcases h.has k hk with h1 | h1
    · exact hL k h1
    · omega⟩
/-- a device that was made since -/
structure Mine (B : Nat) (w0 w : World) (g : Nat) (d : Dv) : Prop where
  dev : ∃ L, L.g = g ∧ Dev w L d ∧ ∀ k, L.has k → B ≤ k
  bel : Below B w0 w
theorem Mine.step {B : Nat} {w0 w w' : World} {g : Nat} {d : Dv} (h : Mine B w0 w g d) (hb : Below w.heap.size w w') (hB : B ≤ w.heap.size) : Mine B w0 w' g d := by
  obtain ⟨⟨L, hg, hd, hL⟩, hbel⟩ := h
  exact ⟨⟨L, hg, hd.step hb, hL⟩, hbel.trans (hb.mono hB)⟩
theorem Mine.go {B : Nat} {w0 w w' : World} {g : Nat} {d' : Dv} {L L' : DL} (hbel : Below B w0 w) (hg : L.g = g) (hL : ∀ k, L.has k → B ≤ k) (hB : B ≤ w.heap.size) (h : DevTo L L' d' w w') : Mine B w0 w' g d' := by
  obtain ⟨h1, h2⟩ := DevTo.at hbel h hL hB
  exact ⟨⟨L', h.g.trans hg, h.dev, h2⟩, h1⟩
/-- a thing done -/
def Dv.op (d : Dv) (x : OpV) : Dv := if x.k = 1 then d.write x.n x.b else if x.k = 2 then d.sync else if x.k = 3 then d.crash x.t else if x.k = 4 then d.setFuse x.n else d
def Dv.ops (d : Dv) (xs : List OpV) (k : Nat) : Dv := (xs.take k).foldl Dv.op d
theorem Dv.ops_succ (d : Dv) (xs : List OpV) (k : Nat) (h : k < xs.length) : d.ops xs (k + 1) = (d.ops xs k).op (xs.getD k op0) := by
  unfold Dv.ops
  rw [List.take_succ_eq_append_getElem h, List.foldl_append]
  simp [List.getD, h]
theorem Dv.op_n (d : Dv) (x : OpV) : (d.op x).n = d.n := by
  unfold Dv.op
  split
  · exact Dv.write_n _ _
  · split
    · exact Dv.sync_n
    · split
      · rfl
      · split <;> rfl
theorem Dv.op_pend (d : Dv) (x : OpV) : (d.op x).pend.length ≤ d.pend.length + 1 := by
  unfold Dv.op
  split
  · exact Dv.write_pend _ _
  · split
    · exact Nat.le_succ_of_le Dv.sync_pend
    · split
      · simp [Dv.crash]
      · split <;> simp [Dv.setFuse]
theorem Dv.ops_n (d : Dv) (xs : List OpV) : ∀ k, k ≤ xs.length → (d.ops xs k).n = d.n
  | 0, _ => rfl
  | k + 1, h => by rw [Dv.ops_succ _ _ _ (by omega), Dv.op_n, Dv.ops_n d xs k (by omega)]
theorem Dv.ops_pend (d : Dv) (xs : List OpV) : ∀ k, k ≤ xs.length → (d.ops xs k).pend.length ≤ d.pend.length + k
  | 0, _ => Nat.le_refl _
  | k + 1, h => by
    rw [Dv.ops_succ _ _ _ (by omega)]
    have := Dv.op_pend (d.ops xs k) (xs.getD k op0)
    have := Dv.ops_pend d xs k (by omega)
    omega
def MadeRes (d : Dv) (w : World) (e : Ending) (w' : World) : Prop := ∃ g, e = .returned (.pointer (some ⟨g, 0, none⟩)) ∧ Mine w.heap.size w w' g d
set_option maxRecDepth 100000 in
set_option maxHeartbeats 1600000 in
theorem made_any (A : Option Addr) (c : Nat) (xs : List OpV) (w : World) (hr : RdOps w w.heap.size A xs) : Calls Try.prog 9 #[.slice A xs.length c] w (MadeRes ((Dv.new 8).ops xs (min xs.length 40)) w) := by
  obtain ⟨n, hn⟩ : ∃ n, xs.length = n := ⟨_, rfl⟩
  have HR := Lib.hid hr
  rw [hn]
  have HN := Lib.hid hn
  clear hn hr
  go_enter Try.func9, Try.ntmps9
  go_wp2_with fail
  refine (new_dev 8 (by omega) (by omega) w).mono ?_
  rintro e w1 ⟨L0, rfl, hd0, hb0, hL0⟩
  obtain ⟨g, hg⟩ : ∃ g, L0.g = g := ⟨_, rfl⟩
  have hM : Mine w.heap.size w w1 g ((Dv.new 8).ops xs 0) := ⟨⟨L0, hg, hd0, hL0⟩, hb0⟩
  rw [hg]
  clear hg hd0 hL0 hb0
  go_wp2_with fail
  go_loopw [5] (fun i wr => ∃ k : Nat, k ≤ n ∧ k ≤ 40 ∧ i = .int .i64 k ∧ Mine w.heap.size w wr g ((Dv.new 8).ops xs k)) (fun i _ => 40 - (intOf i).toNat)
  case atStart => exact ⟨0, by omega, by omega, rfl, hM⟩
  case round =>
    clear hM
    obtain ⟨k, hk, hk40, rfl, hM⟩ := hrel
    by_cases hlt : k < n
    · have hk0 : (0 : Int) ≤ k := by omega
      have hk1 : (k : Int) < n := by omega
      by_cases hlt40 : k < 40
      · have hk2 : (k : Int) < 40 := by omega
        obtain ⟨⟨L, rfl, hd, hL⟩, hb⟩ := hM
        have hpl := Dv.ops_pend (Dv.new 8) xs k (by rw [HN.out]; omega)
        obtain ⟨o, go, rfl, hgo, hat⟩ := HR.out (by rw [HN.out]; omega)
        have hx := (hat k (by rw [HN.out]; exact hlt)).step hb hgo
        have hsucc := Dv.ops_succ (Dv.new 8) xs k (by rw [HN.out]; exact hlt)
        obtain ⟨x, hxx⟩ : ∃ x, x = xs.getD k op0 := ⟨_, rfl⟩
        obtain ⟨d, hdd⟩ : ∃ d, d = (Dv.new 8).ops xs k := ⟨_, rfl⟩
        rw [← hxx] at hx hsucc
        rw [← hdd] at hsucc hd hpl
        have e1 := hx.k
        have e2 := hx.n
        have e3 := hx.b
        have e4 := hx.t
        have hsz := hb.size
        have HS := Lib.hid hsucc
        have HX := Lib.hid hx
        clear hat hxx hdd hsucc hx
        have hend : ∀ w2, Mine w.heap.size w w2 L.g (d.op x) → (∃ j : Nat, j ≤ n ∧ j ≤ 40 ∧ Value.int .i64 ((k : Int) + 1) = .int .i64 j ∧ Mine w.heap.size w w2 L.g ((Dv.new 8).ops xs j)) ∧ 40 - (intOf (Value.int .i64 ((k : Int) + 1))).toNat < 40 - (intOf (Value.int .i64 k)).toNat := fun w2 hM => ⟨⟨k + 1, by omega, by omega, by go_num, by rw [HS.out]; exact hM⟩, by simp [intOf]; omega⟩
        have HEND := Lib.hid hend
        clear hend
        have hpl' : d.pend.length ≤ 100000 := by have : (Dv.new 8).pend.length = 0 := rfl; omega
        by_cases h1 : x.k = 1
        · have hop : d.op x = d.write x.n x.b := by unfold Dv.op; rw [if_pos h1]
          rw [h1] at e1
          have HOP := Lib.hid hop
          clear hop h1
          go_wp2_with fail
          go_wp2_with (first | (refine wp_region_lex [] (by kernel_rfl) (by decide +kernel) ?_) | (refine wpLex_nil ?_) | (refine wpLex_pure rfl (fun _ _ => ?_); go_simp; try go_bits) | (refine wpLex_read rfl (fun _ _ => ?_); go_simp; try go_bits) | (refine wpLex_loud rfl (fun _ _ => ?_)))
          refine (write_any L d x.n x.bA x.bc x.b _ (hd.step (Below.refl _ _).drew) HX.out.bc ((HX.out.br.more hsz).stepB (Below.refl _ _).drew) (HX.out.br.apart L hL) hpl').mono ?_
          rintro e w2 ⟨rfl, L2, ht⟩
          go_wp2_with (first | (refine wp_region_lex [] (by kernel_rfl) (by decide +kernel) ?_) | (refine wpLex_nil ?_) | (refine wpLex_pure rfl (fun _ _ => ?_); go_simp; try go_bits) | (refine wpLex_read rfl (fun _ _ => ?_); go_simp; try go_bits) | (refine wpLex_loud rfl (fun _ _ => ?_)))
          exact HEND.out _ ((Mine.go hb.drew rfl hL hsz (by rw [HOP.out]; exact ht)))
        · have n1 : (x.k == 1) = false := by simpa using h1
          by_cases h2 : x.k = 2
          · have hop : d.op x = d.sync := by unfold Dv.op; rw [if_neg h1, if_pos h2]
            rw [h2] at e1
            have HOP := Lib.hid hop
            clear hop h1 n1 h2
            go_wp2_with fail
            refine (sync_any L d _ hd).mono ?_
            rintro e w2 ⟨rfl, L2, ht⟩
            go_wp2_with fail
            exact HEND.out _ (Mine.go hb rfl hL hsz (by rw [HOP.out]; exact ht))
          · have n2 : (x.k == 2) = false := by simpa using h2
            by_cases h3 : x.k = 3
            · have hop : d.op x = d.crash x.t := by unfold Dv.op; rw [if_neg h1, if_neg h2, if_pos h3]
              rw [h3] at e1
              have HOP := Lib.hid hop
              clear hop h1 n1 h2 n2 h3
              go_wp2_with fail
              refine (crash_any L d x.tA x.tc x.t _ hd HX.out.tc (HX.out.tr.more hsz) (HX.out.tr.apart L hL) (by omega)).mono ?_
              rintro e w2 ⟨rfl, L2, ht⟩
              go_wp2_with fail
              exact HEND.out _ (Mine.go hb rfl hL hsz (by rw [HOP.out]; exact ht))
            · have n3 : (x.k == 3) = false := by simpa using h3
              by_cases h4 : x.k = 4
              · have hop : d.op x = d.setFuse x.n := by unfold Dv.op; rw [if_neg h1, if_neg h2, if_neg h3, if_pos h4]
                rw [h4] at e1
                have HOP := Lib.hid hop
                clear hop h1 n1 h2 n2 h3 n3 h4
                go_wp2_with fail
                refine (fuse_any L d x.n _ hd HX.out.lo HX.out.hi).mono ?_
                rintro e w2 ⟨rfl, ht⟩
                go_wp2_with fail
                exact HEND.out _ (Mine.go hb rfl hL hsz (by rw [HOP.out]; exact ht))
              · have n4 : (x.k == 4) = false := by simpa using h4
                have hop : d.op x = d := by unfold Dv.op; rw [if_neg h1, if_neg h2, if_neg h3, if_neg h4]
                have HOP := Lib.hid hop
                clear hop h1 h2 h3 h4
                go_wp2_with fail
                exact HEND.out _ ⟨⟨L, rfl, by rw [HOP.out]; exact hd, hL⟩, hb⟩
      · have hk2 : ¬ (k : Int) < 40 := by omega
        go_wp2_with fail
        go_ret
        exact ⟨g, rfl, by rw [show min n 40 = k by omega]; exact hM⟩
    · have hk2 : ¬ (k : Int) < n := by omega
      go_wp2_with fail
      go_ret
      exact ⟨g, rfl, by rw [show min n 40 = k by omega]; exact hM⟩
end Go.Proofs.Ytbfloejpgjheiaa
