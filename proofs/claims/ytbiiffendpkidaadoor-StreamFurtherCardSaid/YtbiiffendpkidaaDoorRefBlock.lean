/- Layer 4: the document's block. -/
import Derived.Test.YtbiiffendpkidaaDoorBlock
namespace Go.Proofs.YtbiiffendpkidaaDoor
open Go.RowKit
attribute [local go_sem ↓] exec_load_words exec_store_words exec_load_words' exec_store_words' exec_load_b64 exec_store_b64
attribute [local go_sem] load_words store_words load_words' store_words' zero16z z32_length load_b64 store_b64 z8_length zero64
theorem ret_u32 {a b : Int} (h : a = b) : Ending.returned (.int .u32 a) = .returned (.int .u32 b) := by rw [h]
set_option maxHeartbeats 800000 in
theorem refWord_any (l : List UInt8) (o : Nat) (h : o + 4 ≤ l.length) (A : Option Addr) (c : Nat) (hc : 4 ≤ c) (w : World) (hr : Rd8 w w.heap.size A ((l.drop o).take 4)) :
    Calls Tryd.prog 21 #[.slice A 4 c] w fun e w' => e = .returned (.int .u32 (n32 (wordAt l o))) ∧ ∃ n, w' = w.drewN n := by
  have hl : ((l.drop o).take 4).length = 4 := by simp; omega
  have e : ∀ i, i < 4 → at8 ((l.drop o).take 4) i = at8 l (o + i) := fun i hi => by
    simp [at8, List.getD, List.getElem?_drop, hi]
  obtain ⟨g, off, rfl, -, hcell⟩ := hr (by omega)
  have c0 := hcell 0 (by omega)
  have c1 := hcell 1 (by omega)
  have c2 := hcell 2 (by omega)
  have c3 := hcell 3 (by omega)
  rw [e 0 (by omega)] at c0
  rw [e 1 (by omega)] at c1
  rw [e 2 (by omega)] at c2
  rw [e 3 (by omega)] at c3
  have hw : n32 (wordAt l o) = n8 (at8 l o) + 256 * n8 (at8 l (o + 1)) + 65536 * n8 (at8 l (o + 2)) + 16777216 * n8 (at8 l (o + 3)) := by
    have h0 := (at8 l o).toNat_lt
    have h1 := (at8 l (o + 1)).toNat_lt
    have h2 := (at8 l (o + 2)).toNat_lt
    have h3 := (at8 l (o + 3)).toNat_lt
    rw [n32_def, n8_def, n8_def, n8_def, n8_def]
    unfold wordAt
    rw [UInt32.toNat_ofNat']
    omega
  have HW := Lib.hid hw
  rw [Nat.add_zero] at c0
  clear hcell e hl hw
  have b0 := n8_ge (at8 l o); have d0 := n8_lt (at8 l o)
  have b1 := n8_ge (at8 l (o + 1)); have d1 := n8_lt (at8 l (o + 1))
  have b2 := n8_ge (at8 l (o + 2)); have d2 := n8_lt (at8 l (o + 2))
  have b3 := n8_ge (at8 l (o + 3)); have d3 := n8_lt (at8 l (o + 3))
  generalize n8 (at8 l o) = y0 at *
  generalize n8 (at8 l (o + 1)) = y1 at *
  generalize n8 (at8 l (o + 2)) = y2 at *
  generalize n8 (at8 l (o + 3)) = y3 at *
  go_enter Tryd.func21, Tryd.ntmps21
  go_wp2_with (first | (refine wp_region_lex [] (by kernel_rfl) (by decide +kernel) ?_) | (refine wpLex_nil ?_) | (refine wpLex_pure rfl (fun _ _ => ?_); go_simp; try go_bits) | (refine wpLex_read rfl (fun _ _ => ?_); go_simp; try go_bits) | (refine wpLex_loud rfl (fun _ _ => ?_)))
  go_ret
  refine ⟨ret_u32 ?_, _, rfl⟩
  rw [HW.out]
  omega
theorem refQuarter_at (ws : List UInt32) (hw : ws.length = 16) (na nb nc nd : Nat) (a b c d : Int) (ha : a = na) (hb : b = nb) (hc : c = nc) (hd : d = nd) (ha2 : na < 16) (hb2 : nb < 16) (hc2 : nc < 16) (hd2 : nd < 16) (w : World) :
    Calls Tryd.prog 11 #[.agg (u32s ws), .int .i64 a, .int .i64 b, .int .i64 c, .int .i64 d] w (WordsRes w (quarter ws na nb nc nd)) := by
  subst ha hb hc hd
  exact refQuarter_any ws hw na nb nc nd na nb nc nd (and15 na ha2) (and15 nb hb2) (and15 nc hc2) (and15 nd hd2) ha2 hb2 hc2 hd2 w
theorem lit16 : #[Value.int .u32 1634760805, .int .u32 857760878, .int .u32 2036477234, .int .u32 1797285236, .int .u32 0, .int .u32 0, .int .u32 0, .int .u32 0, .int .u32 0, .int .u32 0, .int .u32 0, .int .u32 0, .int .u32 0, .int .u32 0, .int .u32 0, .int .u32 0] = u32s (firstK [] 0) := by
  simp [firstK, startL_def, u32s_def, n32_def, List.replicate]
theorem firstK_any (key : List UInt8) : firstK [] 0 = firstK key 0 := by simp [firstK]
theorem exec_build16 (ev : Operand → Value) (d : Option Tmp) (ps : Array (Nat × Operand)) (ty : TypeId) (p : String) (af : Array Edge) (g : Option (Nat × Bool)) :
    execOp ev ⟨d, .build 23 ps, ty, p, af, g⟩ = buildK 23 (ps.map fun x => (x.1, ev x.2)) := exec_buildK ev d _ ps ty p af g
theorem build16 (w : World) : (buildK 23 #[(0, .int .u32 1634760805), (1, .int .u32 857760878), (2, .int .u32 2036477234), (3, .int .u32 1797285236)]).run Tryd.prog w = .ok (.value (.agg (u32s (firstK [] 0)))) w :=
  run_buildK (by rw [← lit16]; change _ = _; kernel_rfl) w
attribute [local go_sem ↓] exec_build16
attribute [local go_sem] lit16 build16
set_option maxRecDepth 100000 in
set_option maxHeartbeats 1600000 in
theorem refBlock_any (key nonce : List UInt8) (ctr : UInt32) (hkey : key.length = 32) (hnon : nonce.length = 12) (w : World) :
    Calls Tryd.prog 13 #[.agg (u8s key), .int .u32 (n32 ctr), .agg (u8s nonce)] w (BytesRes w (blockB key ctr nonce)) := by
  have hf0 := firstK_length [] 0 (by omega)
  go_enter Tryd.func13, Tryd.ntmps13
  go_wp2_with (first | (refine wp_region_lex [] (by kernel_rfl) (by decide +kernel) ?_) | (refine wpLex_nil ?_) | (refine wpLex_pure rfl (fun _ _ => ?_); go_simp; try go_bits) | (refine wpLex_read rfl (fun _ _ => ?_); go_simp; try go_bits) | (refine wpLex_loud rfl (fun _ _ => ?_)))
  rw [firstK_any key]
  go_loopw [8] (fun i wr => ∃ (k n : Nat), k ≤ 8 ∧ i = .int .i64 k ∧ wr = ((((w.alloc (.cells (u8s key) 26)).alloc (.cells (u8s nonce) 27)).alloc (.cells (u8s (z8 64)) 31)).alloc (.cells (u32s (firstK key k)) 23)).drewN n) (fun i _ => 8 - (intOf i).toNat)
  case atStart => exact ⟨0, 0, by omega, rfl, rfl⟩
  case round =>
    obtain ⟨k, n, hk, rfl, rfl⟩ := hrel
    by_cases hlt8 : k < 8
    · have hfl := firstK_length key k (by omega)
      have hfs := firstK_succ key k (by omega)
      have hk0 : (0 : Int) ≤ (k : Int) := by omega
      have hk1 : (k : Int) < 8 := by omega
      obtain ⟨x, hx⟩ : ∃ x : Nat, (4 : Int) * k = x := ⟨4 * k, by omega⟩
      obtain ⟨y, hy⟩ : ∃ y : Nat, (x : Int) + 4 = y := ⟨x + 4, by omega⟩
      have hx0 : (0 : Int) ≤ x := by omega
      have hxy : (x : Int) ≤ y := by omega
      have hy32 : (y : Int) ≤ 32 := by omega
      have hyx : y - x = 4 := by omega
      have hne : ¬ (32 = x) := by omega
      obtain ⟨z, hz⟩ : ∃ z : Nat, (4 : Int) + k = z := ⟨4 + k, by omega⟩
      have hz0 : (0 : Int) ≤ z := by omega
      have hz1 : (z : Int) < 16 := by omega
      have hz2 : z < 16 := by omega
      rw [show 4 * k = x by omega] at hfs
      rw [show 4 + k = z by omega] at hfs
      go_wp2_with fail
      refine (refWord_any key x (by omega) _ _ (by omega) _ (rd8_part ⟨by go_simp, by go_simp⟩ x 4)).mono ?_
      rintro e w' ⟨rfl, n1, rfl⟩
      go_wp2_with fail
      exact ⟨⟨k + 1, _, by omega, by go_num, rfl⟩, by simp [intOf]; omega⟩
    · have e8 : k = 8 := by omega
      subst e8
      rw [show ((8 : Nat) : Int) = 8 from rfl]
      have hfl := firstK_length key 8 (by omega)
      have hn0 := firstN_zero key ctr nonce
      go_wp2_with fail
      go_loopw [9] (fun i wr => ∃ (k n : Nat), k ≤ 3 ∧ i = .int .i64 k ∧ wr = ((((w.alloc (.cells (u8s key) 26)).alloc (.cells (u8s nonce) 27)).alloc (.cells (u8s (z8 64)) 31)).alloc (.cells (u32s (firstN key ctr nonce k)) 23)).drewN n) (fun i _ => 3 - (intOf i).toNat)
      case atStart => exact ⟨0, _, by omega, rfl, rfl⟩
      case round =>
        obtain ⟨k, n, hk, rfl, rfl⟩ := hrel
        by_cases hlt8 : k < 3
        · have hfl := firstN_length key ctr nonce k (by omega)
          have hfs := firstN_succ key ctr nonce k (by omega)
          have hk0 : (0 : Int) ≤ (k : Int) := by omega
          have hk1 : (k : Int) < 3 := by omega
          obtain ⟨x, hx⟩ : ∃ x : Nat, (4 : Int) * k = x := ⟨4 * k, by omega⟩
          obtain ⟨y, hy⟩ : ∃ y : Nat, (x : Int) + 4 = y := ⟨x + 4, by omega⟩
          have hx0 : (0 : Int) ≤ x := by omega
          have hxy : (x : Int) ≤ y := by omega
          have hy32 : (y : Int) ≤ 12 := by omega
          have hyx : y - x = 4 := by omega
          have hne : ¬ (12 = x) := by omega
          obtain ⟨z, hz⟩ : ∃ z : Nat, (13 : Int) + k = z := ⟨13 + k, by omega⟩
          have hz0 : (0 : Int) ≤ z := by omega
          have hz1 : (z : Int) < 16 := by omega
          have hz2 : z < 16 := by omega
          rw [show 4 * k = x by omega] at hfs
          rw [show 13 + k = z by omega] at hfs
          go_wp2_with fail
          refine (refWord_any nonce x (by omega) _ _ (by omega) _ (rd8_part ⟨by go_simp, by go_simp⟩ x 4)).mono ?_
          rintro e w' ⟨rfl, n1, rfl⟩
          go_wp2_with fail
          exact ⟨⟨k + 1, _, by omega, by go_num, rfl⟩, by simp [intOf]; omega⟩
        · have e3 : k = 3 := by omega
          subst e3
          rw [show ((3 : Nat) : Int) = 3 from rfl]
          have hfl := firstN_length key ctr nonce 3 (by omega)
          rw [firstN_all] at hfl ⊢
          obtain ⟨f, hf⟩ : ∃ f, f = firstW key ctr nonce := ⟨_, rfl⟩
          rw [← hf] at hfl ⊢
          have HF := Lib.hid hf
          clear hf hn0
          go_wp2_with fail
          go_loopw [11] (fun i wr => ∃ k : Nat, k ≤ 10 ∧ i = .int .i64 k ∧ RowIs wr (w.heap.size + 1 + 1 + 1 + 1) (u32s (roundsK f k)) ∧ RowIs wr (w.heap.size + 1 + 1 + 1) (u32s f) ∧ RowIs wr (w.heap.size + 1 + 1) (u8s (z8 64)) ∧ Below w.heap.size w wr) (fun i _ => 10 - (intOf i).toNat)
          case atStart =>
            refine ⟨0, by omega, rfl, ⟨by go_simp, by go_simp; rfl⟩, ⟨by go_simp, by go_simp⟩, ⟨by go_simp, by go_simp⟩, ?_⟩
            first | exact (below_drewN ((((Below.refl w.heap.size w).alloc (Nat.le_refl _) _).alloc (by simp) _).alloc (by simp; omega) _ |>.alloc (by simp; omega) _)).alloc (by simp [World.drewN]; omega) _ | exact below_drewN ((((((Below.refl w.heap.size w).alloc (Nat.le_refl _) _).alloc (by simp) _).alloc (by simp; omega) _).alloc (by simp; omega) _).alloc (by simp; omega) _)
          case round =>
            obtain ⟨k, hk, rfl, r8, r7, r6, hb⟩ := hrel
            by_cases hlt10 : k < 10
            · have hk0 : (0 : Int) ≤ (k : Int) := by omega
              have hk1 : (k : Int) < 10 := by omega
              have hrl : (roundsK f k).length = 16 := by rw [roundsK_len, hfl]
              have HK : Hid (roundsK f (k + 1) = qsK (roundsK f k) 8) := Lib.hid rfl
              obtain ⟨l, hl⟩ : ∃ l, l = roundsK f k := ⟨_, rfl⟩
              rw [← hl] at r8 hrl HK
              have R8 := Lib.hid r8
              have R7 := Lib.hid r7
              have R6 := Lib.hid r6
              have HB := Lib.hid hb
              clear r8 r7 r6 hl hb
              go_wp2_with fail
              go_loopw [12] (fun i wr' => ∃ j : Nat, j ≤ 4 ∧ i = .int .i64 j ∧ RowIs wr' (w.heap.size + 1 + 1 + 1 + 1) (u32s (qsK l j)) ∧ RowIs wr' (w.heap.size + 1 + 1 + 1) (u32s f) ∧ RowIs wr' (w.heap.size + 1 + 1) (u8s (z8 64)) ∧ Below w.heap.size w wr') (fun i _ => 4 - (intOf i).toNat)
              case atStart => exact ⟨0, by omega, rfl, R8.out, R7.out, R6.out, HB.out⟩
              case round =>
                obtain ⟨j, hj, rfl, r8, r7, r6, hb⟩ := hrel
                have h8 := r8.has
                have h8r := r8.row
                have h8l := r8.lt
                have hjl : (qsK l j).length = 16 := by rw [qsK_len, hrl]
                have R8 := Lib.hid r8
                have R7 := Lib.hid r7
                have R6 := Lib.hid r6
                have HB := Lib.hid hb
                clear r8 r7 r6 hb
                by_cases hlt4 : j < 4
                · have hj0 : (0 : Int) ≤ (j : Int) := by omega
                  have hj1 : (j : Int) < 4 := by omega
                  go_wp2_with fail
                  refine (refQuarter_at (qsK l j) hjl (qa j) (qb j) (qc j) (qd j) _ _ _ _ (by unfold qa; omega) (by unfold qb; omega) (by unfold qc; omega) (by unfold qd; omega) (qa_lt j) (qb_lt j) (qc_lt j) (qd_lt j) _).mono ?_
                  rintro e w2 ⟨rfl, hb2⟩
                  have R8 := Lib.hid (R8.out.below hb2 (by omega))
                  have R7 := Lib.hid (R7.out.below hb2 (by have := R7.out.lt; omega))
                  have R6 := Lib.hid (R6.out.below hb2 (by have := R6.out.lt; omega))
                  have hbs := HB.out.size
                  have HB := Lib.hid (HB.out.trans (hb2.mono (by omega)))
                  have h8 := R8.out.has
                  have h8r := R8.out.row
                  have h8l := R8.out.lt
                  have hql := quarter_len (qsK l j) (qa j) (qb j) (qc j) (qd j)
                  rw [hjl] at hql
                  go_wp2_with fail
                  exact ⟨⟨j + 1, by omega, by go_num, R8.out.set _, R7.out.set_ne (by omega) _, R6.out.set_ne (by omega) _, below_setRow HB.out (by omega) _⟩, by simp [intOf]; omega⟩
                · have e4 : j = 4 := by omega
                  subst e4
                  rw [show ((4 : Nat) : Int) = 4 from rfl]
                  go_wp2_with fail
                  go_loopw [13] (fun i wr' => ∃ j : Nat, j ≤ 4 ∧ i = .int .i64 j ∧ RowIs wr' (w.heap.size + 1 + 1 + 1 + 1) (u32s (qsK l (4 + j))) ∧ RowIs wr' (w.heap.size + 1 + 1 + 1) (u32s f) ∧ RowIs wr' (w.heap.size + 1 + 1) (u8s (z8 64)) ∧ Below w.heap.size w wr') (fun i _ => 4 - (intOf i).toNat)
                  case atStart => exact ⟨0, by omega, rfl, R8.out, R7.out, R6.out, HB.out⟩
                  case round =>
                    obtain ⟨j, hj, rfl, r8, r7, r6, hb⟩ := hrel
                    have h8 := r8.has
                    have h8r := r8.row
                    have h8l := r8.lt
                    have hjl : (qsK l (4 + j)).length = 16 := by rw [qsK_len, hrl]
                    have R8 := Lib.hid r8
                    have R7 := Lib.hid r7
                    have R6 := Lib.hid r6
                    have HB := Lib.hid hb
                    clear r8 r7 r6 hb
                    by_cases hlt4 : j < 4
                    · have hj0 : (0 : Int) ≤ (j : Int) := by omega
                      have hj1 : (j : Int) < 4 := by omega
                      go_wp2_with fail
                      refine (refQuarter_at (qsK l (4 + j)) hjl (qa (4 + j)) (qb (4 + j)) (qc (4 + j)) (qd (4 + j)) _ _ _ _ (by unfold qa; omega) (by unfold qb; omega) (by unfold qc; omega) (by unfold qd; omega) (qa_lt _) (qb_lt _) (qc_lt _) (qd_lt _) _).mono ?_
                      rintro e w2 ⟨rfl, hb2⟩
                      have R8 := Lib.hid (R8.out.below hb2 (by omega))
                      have R7 := Lib.hid (R7.out.below hb2 (by have := R7.out.lt; omega))
                      have R6 := Lib.hid (R6.out.below hb2 (by have := R6.out.lt; omega))
                      have hbs := HB.out.size
                      have HB := Lib.hid (HB.out.trans (hb2.mono (by omega)))
                      have h8 := R8.out.has
                      have h8r := R8.out.row
                      have h8l := R8.out.lt
                      have hql := quarter_len (qsK l (4 + j)) (qa (4 + j)) (qb (4 + j)) (qc (4 + j)) (qd (4 + j))
                      rw [hjl] at hql
                      go_wp2_with fail
                      exact ⟨⟨j + 1, by omega, by go_num, R8.out.set _, R7.out.set_ne (by omega) _, R6.out.set_ne (by omega) _, below_setRow HB.out (by omega) _⟩, by simp [intOf]; omega⟩
                    · have e4 : j = 4 := by omega
                      subst e4
                      rw [show ((4 : Nat) : Int) = 4 from rfl]
                      go_wp2_with fail
                      exact ⟨⟨k + 1, by omega, by go_num, by rw [HK.out]; exact R8.out, R7.out, R6.out, HB.out⟩, by simp [intOf]; omega⟩
            · have e10 : k = 10 := by omega
              subst e10
              have hrl : (roundsK f 10).length = 16 := by rw [roundsK_len, hfl]
              obtain ⟨l, hl⟩ : ∃ l, l = roundsK f 10 := ⟨_, rfl⟩
              rw [← hl] at r8 hrl
              have HL := Lib.hid hl
              have R8 := Lib.hid r8
              have R7 := Lib.hid r7
              have R6 := Lib.hid r6
              have hws := hb.size
              have h8l := r8.lt
              have HB := Lib.hid hb
              clear r8 r7 r6 hl hb
              rw [show ((10 : Nat) : Int) = 10 from rfl]
              obtain ⟨w3, rfl⟩ : ∃ w3, w3 = wr := ⟨_, rfl⟩
              go_wp2_with fail
              go_loopw [15] (fun i wr' => ∃ (j n : Nat) (o : List UInt8), j ≤ 64 ∧ i = .int .i64 j ∧ o.length = 64 ∧ (∀ x, x < j → at8 o x = outAt f l x) ∧ wr' = (w3.alloc (.cells (u8s o) 31)).drewN n) (fun i _ => 64 - (intOf i).toNat)
              case atStart => exact ⟨0, 0, z8 64, by omega, rfl, z8_length _, fun x hx => by omega, rfl⟩
              case round =>
                obtain ⟨j, n, o, hj, rfl, hol, hox, rfl⟩ := hrel
                have h8 := R8.out.has
                have h8r := R8.out.row
                have h7 := R7.out.has
                have h7r := R7.out.row
                have h6 := R6.out.has
                have h6r := R6.out.row
                have HO := Lib.hid hox
                clear hox
                by_cases hlt64 : j < 64
                · have hj0 : (0 : Int) ≤ (j : Int) := by omega
                  have hj1 : (j : Int) < 64 := by omega
                  obtain ⟨x, hx⟩ : ∃ x : Nat, (j : Int) / 4 = x := ⟨j / 4, by omega⟩
                  obtain ⟨m, hm⟩ : ∃ m : Nat, (j : Int) % 4 = m := ⟨j % 4, by omega⟩
                  have hx0 : (0 : Int) ≤ x := by omega
                  have hx1 : (x : Int) < 16 := by omega
                  have hx2 : x < 16 := by omega
                  have c8 := R8.out.cell32 x (by omega)
                  have c7 := R7.out.cell32 x (by omega)
                  have hm0 : (0 : Int) ≤ m := by omega
                  have c8 := (R8.out.alloc (.cells (u8s o) 31)).cell32 x (by omega)
                  have c7 := (R7.out.alloc (.cells (u8s o) 31)).cell32 x (by omega)
                  have h7l := R7.out.lt
                  have h6l := R6.out.lt
                  have hm1 : (m : Int) < 4 := by omega
                  go_wp2_with (first | (refine wp_region_lex [] (by kernel_rfl) (by decide +kernel) ?_) | (refine wpLex_nil ?_) | (refine wpLex_pure rfl (fun _ _ => ?_); go_simp; try go_bits) | (refine wpLex_read rfl (fun _ _ => ?_); go_simp; try go_bits) | (refine wpLex_loud rfl (fun _ _ => ?_)))
                  have hby : n32 (at32 l x + at32 f x) / 2 ^ (8 * m) % 256 = n8 (outAt f l j) := by
                    unfold outAt
                    rw [show j / 4 = x by omega, show j % 4 = m by omega, ← up32_fold]
                    exact byteOf_fold _ _
                  rw [hby, u8s_set]
                  refine ⟨⟨j + 1, _, _, by omega, by go_num, ?_, fun y hy => ?_, rfl⟩, by simp [intOf]; omega⟩
                  · rw [List.length_set]; exact hol
                  · rw [at8_set _ _ _ _ (by omega)]
                    split
                    · subst_vars; rfl
                    · exact HO.out y (by omega)
                · have e64 : j = 64 := by omega
                  subst e64
                  have h7l := R7.out.lt
                  have h6l := R6.out.lt
                  go_wp2_with fail
                  refine bodyPost_retRow 6 _ (w.heap.size + 1 + 1) 64 rfl rfl (by omega) (by kernel_rfl) (by kernel_rfl) ?_ rfl ?_
                  · go_simp
                  · go_simp
                    have e : o = blockB key ctr nonce := by
                      unfold blockB
                      rw [← HF.out, ← HL.out]
                      exact ext8 hol fun y hy => HO.out y (by omega)
                    refine ⟨by rw [e], below_drewN ((below_setRow HB.out (by omega) _).alloc (by simp [World.setRow]; omega) _)⟩
end Go.Proofs.YtbiiffendpkidaaDoor
