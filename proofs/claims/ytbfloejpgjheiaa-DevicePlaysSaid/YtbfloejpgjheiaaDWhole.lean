/- Layer 11: whatever stays of a crash, each sector is whole. -/
import Derived.Test.YtbfloejpgjheiaaDev10
import Derived.Test.YtbfloejpgjheiaaZer
namespace Go.Proofs.Ytbfloejpgjheiaa
open Go.RowKit
/-! ### the plain law -/
theorem sect_spl (l r : List UInt8) (i j n : Nat) (hl : l.length = 256 * n) (hi : i < n) (hr : r.length = 256) : sect (spl l (256 * i) r) j = if j = i then r else sect l j := by
  rw [sect_def, sect_def]
  unfold spl
  rw [hr]
  by_cases h : j = i
  · rw [if_pos h, h, List.drop_append_of_le_length (by rw [List.length_append, List.length_take]; omega)]
    rw [List.drop_append, List.drop_of_length_le (by rw [List.length_take]; omega)]
    simp only [List.length_take, List.nil_append]
    rw [show 256 * i - min (256 * i) l.length = 0 by omega, List.drop_zero, List.take_append_of_le_length (by omega), List.take_of_length_le (by omega)]
  · rw [if_neg h]
    apply List.ext_getElem?
    intro x
    by_cases hx : x < 256
    · rw [List.getElem?_take, List.getElem?_take, if_pos hx, if_pos hx, List.getElem?_drop, List.getElem?_drop, List.append_assoc]
      by_cases hlt : 256 * j + x < 256 * i
      · rw [List.getElem?_append_left (by rw [List.length_take]; omega), List.getElem?_take, if_pos hlt]
      · rw [List.getElem?_append_right (by rw [List.length_take]; omega), List.length_take, show min (256 * i) l.length = 256 * i by omega,
          List.getElem?_append_right (by omega), List.getElem?_drop]
        congr 1
        omega
    · rw [List.getElem?_take, List.getElem?_take, if_neg hx, if_neg hx]
/-- a sector of what is left is one that was sure, or one that was pending -/
theorem keepK_sect (d : Dv) (h : d.Ok) (ks : List Bool) (j : Nat) (hj : j < d.n) : ∀ k, k ≤ d.pend.length → sect (Dv.keepK d.pend ks d.sure k) j = sect d.sure j ∨ ∃ p ∈ d.pend, p.1 = j ∧ sect (Dv.keepK d.pend ks d.sure k) j = p.2
  | 0, _ => .inl rfl
  | k + 1, hk => by
    have ih := keepK_sect d h ks j hj k (by omega)
    have hp := Dv.pend_at h k (by omega)
    unfold Dv.keepK
    split
    · rw [sect_spl _ _ _ _ d.n (Dv.keepK_length h ks k (by omega)) hp.1 hp.2]
      by_cases e : j = (d.pend.getD k (0, [])).1
      · rw [if_pos e]
        refine .inr ⟨d.pend.getD k (0, []), ?_, e.symm, rfl⟩
        have : d.pend.getD k (0, []) = d.pend[k] := by simp [List.getD, show k < d.pend.length by omega]
        rw [this]; exact List.getElem_mem _
      · rw [if_neg e]; exact ih
    · exact ih
/-- the writes, one by one -/
def wrK (d : Dv) (ys : List OpV) : Nat → Dv
  | 0 => d
  | k + 1 => (wrK d ys k).write (ys.getD k op0).n (ys.getD k op0).b
def fits (j : Nat) (y : OpV) : Prop := y.n = j ∧ y.b.length ≤ 256
structure Wr (S : List UInt8) (d : Dv) (ys : List OpV) (k : Nat) : Prop where
  n : d.n = 8
  sure : d.sure = S
  pl : d.pend.length ≤ k
  pend : ∀ p ∈ d.pend, ∃ x, x < k ∧ (ys.getD x op0).n = p.1 ∧ (ys.getD x op0).b.length ≤ 256 ∧ full (ys.getD x op0).b = p.2
theorem Wr.succ {S : List UInt8} {d : Dv} {ys : List OpV} {k : Nat} (h : Wr S d ys k) : Wr S (d.write (ys.getD k op0).n (ys.getD k op0).b) ys (k + 1) := by
  have more : ∀ p ∈ d.pend, ∃ x, x < k + 1 ∧ (ys.getD x op0).n = p.1 ∧ (ys.getD x op0).b.length ≤ 256 ∧ full (ys.getD x op0).b = p.2 := fun p hp => by
    obtain ⟨x, hx, r⟩ := h.pend p hp
    exact ⟨x, by omega, r⟩
  by_cases h1 : (ys.getD k op0).n < 0 ∨ (d.n : Int) ≤ (ys.getD k op0).n
  · rw [(Dv.write_sector h1).1]; exact ⟨h.n, h.sure, by have := h.pl; omega, more⟩
  · by_cases h2 : 256 < (ys.getD k op0).b.length
    · rw [(Dv.write_long h1 h2).1]; exact ⟨h.n, h.sure, by have := h.pl; omega, more⟩
    · by_cases h3 : d.tick.down = true
      · rw [(Dv.write_down h1 h2 h3).1]; exact ⟨h.n, h.sure, by have := h.pl; exact Nat.le_succ_of_le this, more⟩
      · rw [(Dv.write_done h1 h2 h3).1]
        refine ⟨h.n, h.sure, by have := h.pl; simp; omega, fun p hp => ?_⟩
        rcases List.mem_append.1 hp with hp | hp
        · exact more p hp
        · rw [List.mem_singleton.1 hp]
          exact ⟨k, by omega, by show _ = ((ys.getD k op0).n.toNat : Int); omega, by omega, rfl⟩
/-- whether a sector is whole, as the law reckons it -/
noncomputable def okK (g s : List UInt8) (ys : List OpV) (i : Nat) : Nat → Bool
  | 0 => decide (g = s)
  | j + 1 => if (ys.getD j op0).n = i ∧ (ys.getD j op0).b.length ≤ 256 then okK g s ys i j || decide (g = full (ys.getD j op0).b) else okK g s ys i j
theorem okK_mono (g s : List UInt8) (ys : List OpV) (i j : Nat) : ∀ k, j ≤ k → okK g s ys i j = true → okK g s ys i k = true
  | 0, h, ho => by obtain rfl : j = 0 := by omega
                   exact ho
  | k + 1, h, ho => by
    by_cases e : j = k + 1
    · subst e; exact ho
    · have := okK_mono g s ys i j k (by omega) ho
      unfold okK
      split <;> simp [this]
theorem okK_true {S : List UInt8} {d : Dv} {ys : List OpV} {n i : Nat} (h : Wr S d ys n) (hok : d.Ok) (ks : List Bool) (hi : i < 8) : okK (sect (d.crash ks).seen i) (sect S i) ys i n = true := by
  have hk := keepK_sect d hok ks i (by rw [h.n]; exact hi) _ (Nat.le_refl _)
  have hs : (d.crash ks).seen = Dv.keepK d.pend ks d.sure d.pend.length := rfl
  rw [← hs, h.sure] at hk
  rcases hk with hk | ⟨p, hp, e1, e2⟩
  · exact okK_mono _ _ _ _ 0 n (by omega) (by rw [okK]; exact decide_eq_true hk)
  · obtain ⟨x, hx, f1, f2, f3⟩ := h.pend p hp
    refine okK_mono _ _ _ _ (x + 1) n (by omega) ?_
    rw [okK, if_pos ⟨by rw [f1, e1], f2⟩, Bool.or_eq_true]
    exact .inr (decide_eq_true (by rw [e2, f3]))
theorem full_zeros (b : List UInt8) : b ++ List.replicate (256 - b.length) 0 = full b := by rw [full_def]
set_option maxRecDepth 100000 in
set_option maxHeartbeats 3200000 in
theorem walk_DeviceWhole (A0 : Option Addr) (c0 : Nat) (xs : List OpV) (A1 : Option Addr) (c1 : Nat) (ys : List OpV) (A2 : Option Addr) (c2 : Nat) (ks : List Bool) (w : World)
    (h0 : RdOps w w.heap.size A0 xs) (h1 : RdOps w w.heap.size A1 ys) (hc2 : ks.length ≤ c2) (h2 : RdB w w.heap.size A2 ks) :
    Calls Try.prog 4 #[.slice A0 xs.length c0, .slice A1 ys.length c1, .slice A2 ks.length c2] w (AwakeRes w) := by
  have HO := Lib.hid h0
  have HR := Lib.hid h1
  have HK := Lib.hid h2
  obtain ⟨n, hn⟩ : ∃ n, ys.length = n := ⟨_, rfl⟩
  rw [hn]
  have HN := Lib.hid hn
  clear h0 h1 h2 hn
  have head : ∀ w1, Below w.heap.size w w1 → Calls Try.prog 9 #[.slice A0 xs.length c0] w1 fun e w2 => ∃ g d, e = .returned (.pointer (some ⟨g, 0, none⟩)) ∧ Held w w2 g d [] ∧ d.n = 8 ∧ d.pend.length ≤ 40 := fun w1 hb1 => by
    refine (made_any A0 c0 xs w1 ((HO.out.step hb1).more hb1.size)).mono ?_
    rintro e w2 ⟨g, rfl, ⟨⟨L, e1, e2, e3⟩, e4⟩⟩
    exact ⟨g, _, rfl, Held.new hb1 e2 e4 e3 e1, by rw [Dv.ops_n _ _ _ (by omega)]; rfl, by have := Dv.ops_pend (Dv.new 8) xs (min xs.length 40) (by omega); have : (Dv.new 8).pend.length = 0 := rfl; omega⟩
  have HEAD := Lib.hid head
  clear head
  by_cases hlong : 10 < n
  · have hlong' : (10 : Int) < n := by omega
    go_enter Try.func4, Try.ntmps4
    go_wp2_with fail
    refine (awake_any w).mono ?_
    rintro e w1 ⟨rfl, hb1⟩
    go_wp2_with fail
    refine (HEAD.out w1 hb1).mono ?_
    rintro e w2 ⟨g, d, rfl, hH, -, -⟩
    go_wp2_with fail
    go_ret
    exact ⟨rfl, hH.bel⟩
  · have hshort : ¬ (10 : Int) < n := by omega
    go_enter Try.func4, Try.ntmps4
    go_wp2_with fail
    refine (awake_any w).mono ?_
    rintro e w1 ⟨rfl, hb1⟩
    go_wp2_with fail
    refine (HEAD.out w1 hb1).mono ?_
    rintro e w2 ⟨g, d, rfl, hH, hd8, hdp⟩
    clear hb1
    go_wp2_with fail
    refine (held_crash0 hH (by omega)).mono ?_
    rintro e w3 ⟨rfl, hH3⟩
    have hq0 : (d.crash []).n = 8 := hd8
    have hW0 : Wr (d.crash []).seen (d.crash []) ys 0 := ⟨hd8, rfl, Nat.le_refl _, fun p hp => by simp [Dv.crash] at hp⟩
    have hl : (d.crash []).seen.length = 2048 := by rw [hH3.ok.seen, hq0]
    obtain ⟨q, hq⟩ : ∃ q, q = d.crash [] := ⟨_, rfl⟩
    rw [← hq] at hq0 hW0 hl hH3
    have Q8 := Lib.hid hq0
    have HL := Lib.hid hl
    have HW0 := Lib.hid hW0
    clear hH hd8 hdp hq hq0 hW0 hl
    go_wp2_with fail
    refine (held_all hH3 Q8.out).mono ?_
    rintro e w4 ⟨A9, c9, rfl, hH4, -⟩
    rw [HL.out] at hH4 ⊢
    clear hH3
    have hc9 : 2048 ≤ c9 := by
      obtain ⟨A', c', e', h1, h2, _⟩ := hH4.bs (v := .slice A9 2048 c9) (l := q.seen) (by simp)
      injection e' with e1 e2 e3
      omega
    obtain ⟨g9, o9, c9', e9, hg9⟩ := (hH4.bs (v := .slice A9 2048 c9) (l := q.seen) (by simp)).block (by rw [HL.out]; omega)
    have eA : A9 = some ⟨g9, o9, none⟩ := by injection e9
    subst eA
    clear e9 hg9 c9'
    obtain ⟨S, hS⟩ : ∃ S, S = q.seen := ⟨_, rfl⟩
    have hSl : S.length = 2048 := by rw [hS]; exact HL.out
    have hSS : Held w w4 g q [(.slice (some ⟨g9, o9, none⟩) 2048 c9, S)] := by rw [hS]; exact hH4
    have hWS : Wr S q ys 0 := by rw [hS]; exact HW0.out
    have HSL := Lib.hid hSl
    clear hH4 hS hSl HW0 HL Q8
    go_wp2_with fail
    go_loopw [10] (fun i wr => ∃ (k : Nat) (d : Dv), k ≤ n ∧ i = .int .i64 k ∧ Wr S d ys k ∧ Held w wr g d [(.slice (some ⟨g9, o9, none⟩) 2048 c9, S)]) (fun i _ => n - (intOf i).toNat)
    case atStart => exact ⟨0, q, by omega, rfl, hWS, hSS⟩
    case round =>
      clear hWS hSS
      obtain ⟨k, d, hk, rfl, hWr, hH⟩ := hrel
      by_cases hlt : k < n
      · have hk0 : (0 : Int) ≤ k := by omega
        have hk1 : (k : Int) < n := by omega
        obtain ⟨og, oo, rfl, hgo, hat⟩ := HR.out (by rw [HN.out]; omega)
        have hx0 := hat k (by rw [HN.out]; exact hlt)
        have hx := hx0.step hH.bel hgo
        have hWS := hWr.succ
        obtain ⟨x, hxx⟩ : ∃ x, x = ys.getD k op0 := ⟨_, rfl⟩
        rw [← hxx] at hx hx0 hWS
        have e2 := hx.n
        have e3 := hx.b
        have HX := Lib.hid hx0
        have HWS := Lib.hid hWS
        have hpl := hWr.pl
        clear hat hxx hx hx0 hWr hWS
        go_wp2_with fail
        go_wp2_with (first | (refine wp_region_lex [] (by kernel_rfl) (by decide +kernel) ?_) | (refine wpLex_nil ?_) | (refine wpLex_pure rfl (fun _ _ => ?_); go_simp; try go_bits) | (refine wpLex_read rfl (fun _ _ => ?_); go_simp; try go_bits) | (refine wpLex_loud rfl (fun _ _ => ?_)))
        refine (held_write (hH.step (Below.refl _ _).drew) x.n x.bA x.bc x.b HX.out.bc HX.out.br (by omega)).mono ?_
        rintro e w5 ⟨rfl, hH5⟩
        go_wp2_with (first | (refine wp_region_lex [] (by kernel_rfl) (by decide +kernel) ?_) | (refine wpLex_nil ?_) | (refine wpLex_pure rfl (fun _ _ => ?_); go_simp; try go_bits) | (refine wpLex_read rfl (fun _ _ => ?_); go_simp; try go_bits) | (refine wpLex_loud rfl (fun _ _ => ?_)))
        exact ⟨⟨k + 1, _, by omega, by go_num, HWS.out, hH5⟩, by simp [intOf]; omega⟩
      · have hk2 : ¬ (k : Int) < n := by omega
        obtain rfl : k = n := by omega
        have hpl := hWr.pl
        have hOK := hH.ok
        have hfin : ∀ i, i < 8 → okK (sect (d.crash ks).seen i) (sect S i) ys i k = true := fun i hi => okK_true hWr hOK ks hi
        have hn8 : (d.crash ks).n = 8 := hWr.n
        have HFIN := Lib.hid hfin
        have N8 := Lib.hid hn8
        clear hfin hn8 hWr hOK
        go_wp2_with fail
        refine (held_crash hH A2 c2 ks hc2 HK.out (by omega)).mono ?_
        rintro e w5 ⟨rfl, hH5⟩
        clear hH hpl
        obtain ⟨z, hz⟩ : ∃ z, z = d.crash ks := ⟨_, rfl⟩
        rw [← hz] at HFIN N8 hH5
        clear hz
        go_wp2_with fail
        go_loopw [11] (fun i wr => ∃ (x : Nat), x ≤ 8 ∧ i = .int .i64 x ∧ Held w wr g z [(.slice (some ⟨g9, o9, none⟩) 2048 c9, S)]) (fun i _ => 8 - (intOf i).toNat)
        case atStart => exact ⟨0, by omega, rfl, hH5⟩
        case round =>
          clear hH5
          obtain ⟨x, hx, rfl, hH⟩ := hrel
          by_cases hx8 : x < 8
          · have hx0 : (0 : Int) ≤ x := by omega
            have hx1 : (x : Int) < 8 := by omega
            go_wp2_with fail
            refine (held_read hH x (by rw [N8.out]; exact hx8)).mono ?_
            rintro e w6 ⟨vg, rfl, hH6, -⟩
            clear hH
            have hc9a : ((256 : Int) * x + 256) ≤ c9 := by omega
            go_wp2_with fail
            have hbg : Bs w6 vg (sect z.seen x) := hH6.bs (by simp)
            have hb9 := ((hH6.bs (v := .slice (some ⟨g9, o9, none⟩) 2048 c9) (l := S) (by simp)).drop (256 * x) (by omega)).take 256 (by omega)
            rw [show subA (some ⟨g9, o9, none⟩) c9 (256 * x) = some ⟨g9, o9 + 256 * x, none⟩ from by rw [subA_def, if_neg (by omega), Nat.mul_one]; simp [Addr.add], ← sect_def] at hb9
            refine (held_same hH6 hbg hb9).mono ?_
            rintro e w7 ⟨rfl, hH7⟩
            clear hb9 hbg hH6 hc9a
            go_wp2_with fail
            obtain ⟨G, hG⟩ : ∃ G, G = sect z.seen x := ⟨_, rfl⟩
            obtain ⟨T, hT⟩ : ∃ T, T = sect S x := ⟨_, rfl⟩
            have hok := HFIN.out x hx8
            rw [← hG, ← hT] at hok
            rw [← hG] at hH7
            have hok0 : okK G T ys x 0 = decide (G = T) := by rw [okK]
            have HOK := Lib.hid hok
            have HOK0 := Lib.hid hok0
            rw [← hG, ← hT]
            clear hG hT hok hok0
            go_loopw [14, 15] (fun b i wr => ∃ (j : Nat), j ≤ k ∧ i = .int .i64 j ∧ b = .bool (okK G T ys x j) ∧ Held w wr g z [(vg, G), (.slice (some ⟨g9, o9, none⟩) 2048 c9, S)]) (fun _ i _ => k - (intOf i).toNat)
            case atStart => exact ⟨0, by omega, rfl, by rw [HOK0.out], hH7⟩
            case round =>
              clear hH7
              obtain ⟨j, hj, rfl, rfl, hH⟩ := hrel
              by_cases hjk : j < k
              · have hj0 : (0 : Int) ≤ j := by omega
                have hj1 : (j : Int) < k := by omega
                obtain ⟨og, oo, rfl, hgo, hat⟩ := HR.out (by rw [HN.out]; omega)
                have hy0 := hat j (by rw [HN.out]; exact hjk)
                have hy := hy0.step hH.bel hgo
                have hst : okK G T ys x (j + 1) = if (ys.getD j op0).n = x ∧ (ys.getD j op0).b.length ≤ 256 then okK G T ys x j || decide (G = full (ys.getD j op0).b) else okK G T ys x j := by rw [okK]
                obtain ⟨y, hyy⟩ : ∃ y, y = ys.getD j op0 := ⟨_, rfl⟩
                rw [← hyy] at hy hy0 hst
                have e2 := hy.n
                have e3 := hy.b
                have HY := Lib.hid hy0
                have HST := Lib.hid hst
                obtain ⟨b, hb⟩ : ∃ b, b = okK G T ys x j := ⟨_, rfl⟩
                rw [← hb]
                have HB := Lib.hid hb
                clear hat hyy hy hy0 hst hb
                have hend : ∀ (b' : Bool) w', okK G T ys x (j + 1) = b' → Held w w' g z [(vg, G), (.slice (some ⟨g9, o9, none⟩) 2048 c9, S)] → (∃ (i : Nat), i ≤ k ∧ Value.int .i64 ((j : Int) + 1) = .int .i64 i ∧ Value.bool b' = .bool (okK G T ys x i) ∧ Held w w' g z [(vg, G), (.slice (some ⟨g9, o9, none⟩) 2048 c9, S)]) ∧ k - (intOf (Value.int .i64 ((j : Int) + 1))).toNat < k - (intOf (Value.int .i64 j)).toNat :=
                  fun b' w' q1 q2 => ⟨⟨j + 1, by omega, by go_num, by rw [q1], q2⟩, by simp [intOf]; omega⟩
                have HEND := Lib.hid hend
                clear hend
                by_cases hf1 : y.n = x
                · by_cases hf2 : y.b.length ≤ 256
                  · have hst : okK G T ys x (j + 1) = (b || decide (G = full y.b)) := by rw [HST.out, if_pos ⟨hf1, hf2⟩, HB.out]
                    have hf2' : (y.b.length : Int) ≤ 256 := by omega
                    rw [hf1] at e2
                    have HST2 := Lib.hid hst
                    clear hst hf1
                    cases b with
                    | true =>
                      go_wp2_with fail
                      exact HEND.out _ _ (by rw [HST2.out]; rfl) hH
                    | false =>
                      have hbb : Bs wr (.slice y.bA y.b.length y.bc) y.b := ⟨_, _, rfl, HY.out.bc, by omega, (HY.out.br.stepB hH.bel).more hH.bel.size⟩
                      have hal : Below wr.heap.size wr (wr.alloc (.cells #[] 5)) := (by repeat (first | with_reducible exact Below.refl _ _ | with_reducible assumption | refine Below.drew ?_ | refine below_drewN ?_ | refine Below.alloc ?_ (by first | omega | (simp; done) | (simp; omega)) _ | refine below_setRow ?_ (by omega) _ | refine Below.setCell ?_ (by first | omega | (simp; done) | (simp; omega)) _))
                      have hb1 := hbb.step hal
                      have own0 := Own8.empty (T := 5) (g := wr.heap.size) wr (base := wr.heap.size) rfl (Nat.le_refl _)
                      have hfl : (full y.b).length = 256 := full_length _ hf2
                      obtain ⟨N, hN⟩ : ∃ N, y.b.length = N := ⟨_, rfl⟩
                      have hz : y.b ++ List.replicate (256 - N) 0 = full y.b := by rw [← hN]; exact full_zeros y.b
                      have hNi : ((256 : Int) - N) = ((256 - N : Nat) : Int) := by omega
                      have HZ := Lib.hid hz
                      have HFL := Lib.hid hfl
                      have HNN := Lib.hid hN
                      rw [hN] at hb1 hf2' e3
                      clear hz hfl hN hbb hf2
                      go_wp2_with (at_builtin; first | (refine wpListG_appendBs (by rfl) Try.underlying29 Try.info8 (.tmp 105) (.tmp 106) (by rfl) wr.heap.size (by rfl) own0 (by rfl) hb1 (List.nil_append _) HNN.out (by omega) (by simp) ?_; intro A' c' w5 own5 bel5) | (refine wpListG_append8z (by rfl) Try.underlying29 Try.underlying3 Try.info8 (.tmp 107) (.tmp 110) (by rfl) wr.heap.size (m := 256 - N) (by rfl) own5 (by first | rfl | exact congrArg (Value.int .i64) hNi) HZ.out HFL.out (by omega) (by have := bel5.size; simp at this; omega) ?_; intro A6 c6 w6' own6 bel6))
                      have hbs6 : Bs w6' (.slice A6 256 c6) (full y.b) := by
                        have := own6.bs (by rw [HFL.out]; omega)
                        exact this
                      have hH6 := hH.step ((hal.trans bel5).trans bel6)
                      refine (held_same hH6 (hH6.bs (v := vg) (l := G) (by simp)) hbs6).mono ?_
                      rintro e w7' ⟨rfl, hH8⟩
                      clear hbs6 hH6 hH own5 own6 bel5 bel6 hal hb1 own0
                      go_wp2_with fail
                      exact HEND.out _ _ (by rw [HST2.out]; rfl) hH8
                  · have hst : okK G T ys x (j + 1) = b := by rw [HST.out, if_neg (fun h => hf2 h.2), HB.out]
                    have hf2' : ¬ (y.b.length : Int) ≤ 256 := by omega
                    rw [hf1] at e2
                    have HST2 := Lib.hid hst
                    clear hst hf1
                    go_wp2_with fail
                    exact HEND.out _ _ HST2.out hH
                · have hst : okK G T ys x (j + 1) = b := by rw [HST.out, if_neg (fun h => hf1 h.1), HB.out]
                  have n1 : (y.n == (x : Int)) = false := by simpa using hf1
                  have HST2 := Lib.hid hst
                  clear hst hf1
                  go_wp2_with fail
                  exact HEND.out _ _ HST2.out hH
              · have hj1 : ¬ (j : Int) < k := by omega
                obtain rfl : j = k := by omega
                rw [HOK.out]
                go_wp2_with fail
                exact ⟨⟨x + 1, by omega, by go_num, hH.drop⟩, by simp [intOf]; omega⟩
          · have hx1 : ¬ (x : Int) < 8 := by omega
            go_wp2_with fail
            go_ret
            exact ⟨rfl, hH.bel⟩
end Go.Proofs.Ytbfloejpgjheiaa
