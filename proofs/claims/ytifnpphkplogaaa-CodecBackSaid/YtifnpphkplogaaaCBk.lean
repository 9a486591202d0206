/- CodecBack: the walk of the statement's function. Printed by gen_cbk.py. -/
import Derived.Test.YtifnpphkplogaaaCAg
namespace Go.Proofs.Ytifnpphkplogaaa
open Go.RowKit
/-- an own list of numbers -/
def OwnZ (w : World) (base : Nat) (v : Value) (s : List Int) : Prop := OwnG 3 1 no8V w base v s.length (s.map fun k => Value.int .i64 k)
theorem OwnZ.nil (w : World) (base : Nat) : OwnZ w base (.slice none 0 0) [] := OwnG.nil _ _ _ _ _
theorem OwnZ.step {w w' : World} {base : Nat} {v : Value} {s : List Int} (h : OwnZ w base v s) (hb : Below w.heap.size w w') : OwnZ w' base v s := OwnG.step h hb
theorem OwnZ.lt {w : World} {base : Nat} {v : Value} {s : List Int} (h : OwnZ w base v s) {k : Nat} (hk : v.ownBlock = some k) : base ≤ k ∧ k < w.heap.size := OwnG.lt h hk
theorem OwnZ.updNe {w w' : World} {base g : Nat} {v : Value} {s : List Int} (h : OwnZ w base v s) (hu : Upd g w w') (hg : v.ownBlock ≠ some g) : OwnZ w' base v s :=
  OwnG.keep h fun k hk _ hl => hu.block k hl (fun e => hg (by rw [hk, e]))
theorem OwnZ.grown {w w' : World} {base : Nat} {v : Value} {s : List Int} {row : Option Nat} (h : OwnZ w base v s) (hg : w.grownBy w' row) (hne : ∀ k, v.ownBlock = some k → row ≠ some k) : OwnZ w' base v s :=
  OwnG.keep h fun k hk _ hl => hg.block k hl (fun e => hne k hk e.symm)
theorem OwnI.grownNe {T : TypeId} {w w' : World} {base : Nat} {v : Value} {xs : List ItP} {row : Option Nat} (h : OwnI T w base v xs) (hg : w.grownBy w' row) (hn : ∀ k, row = some k → No8 w k) (hne : ∀ k, row = some k → v.ownBlock ≠ some k) : OwnI T w' base v xs := by
  obtain ⟨cs, h1, h2⟩ := h
  exact ⟨cs, h1.keep fun k hk _ hl => hg.block k hl (fun e => hne k e.symm hk), h2.map (fun _ _ h => h.grown hg hn) (fun _ _ hk h => h.grown hk hg hn)⟩
theorem OwnZ.ints {w : World} {base : Nat} {v : Value} {s : List Int} (h : OwnZ w base v s) : IntsL w v s := by
  have h1 : OwnG 3 1 no8V w base v s.length (s.map fun k => Value.int .i64 k) := h
  obtain ⟨A, c, e, hc⟩ := h1.slice
  refine ⟨A, c, e, hc, fun h0 => ?_⟩
  obtain ⟨g, o, c', e', _, hg⟩ := h1.addr h0
  rw [e'] at e
  injection e with e1 e2 e3
  refine ⟨g, o, e1.symm, hg, fun i hi => h1.range e' i ?_⟩
  simp [hi, nthZ_get hi]
theorem intInfo : (Try.prog.info? 3).map (fun i => (i.zero, i.size, i.bytes)) = some (some (.int .i64 0), 1, 8) := by kernel_rfl
theorem wpList_appendZ {w : World} {o : Oper} {a : Act} {ops : Array Oper} {rest : List Oper} {Q : Exit → Act → World → Prop} (hgd : o.guard = none) (sl x : Operand) (ho : o.op = .call { callee := .builtin .append, args := #[sl, x], argTypes := #[33, 33] })
    {base N b : Nat} {v : Value} {s : List Int} {k : Int} (hsv : a.eval sl = v) (hown : OwnZ w base v s) (hx : a.eval x = .slice (some ⟨b, 0, none⟩) 1 1) (hr : RowIs w b #[.int .i64 k]) (hN : s.length + 1 = N) (hb : N ≤ 1000000) (hbase : base ≤ w.heap.size)
    (hK : ∀ A' c' w', OwnZ w' base (.slice A' N c') (s ++ [k]) → w.grownBy w' v.ownBlock → ((Value.slice A' N c').ownBlock = v.ownBlock ∨ (Value.slice A' N c').ownBlock = some w.heap.size) → Below base w w' → (∀ k, v.ownBlock = some k → No8 w k) → wpList Try.prog ops Q rest (a.put o.dst (.slice A' N c')) w') : wpList Try.prog ops Q (o :: rest) a w := by
  obtain ⟨i, hi1, hz, hs1, hb1⟩ := info_parts intInfo
  have h1 : OwnG 3 1 no8V w base v s.length (s.map fun k => Value.int .i64 k) := hown
  refine wpList_appendG (p := no8V) (s := 1) Try.underlying33 hi1 hz hs1 hb1 (by simp [Value.cells]) (by omega) (by simp [Value.cells, no8V]) hgd sl x ho hsv h1 hx (m := 1) (news := [.int .i64 k]) rfl (fun _ => ⟨b, 0, rfl, fun j u hu => ?_⟩) ?_ ?_ hN (by simp only [maxLen]; omega) (by omega) hbase (fun A' c' w' q1 q2 q3 => hK A' c' w' ?_ q2 q3 (h1.below q2 hbase) (fun k hk => h1.no8 (fun _ => rfl) hk))
  · have hj : j = 0 := by have := (List.getElem?_eq_some_iff.1 hu).1; simpa using this
    subst hj
    have e : Value.int .i64 k = u := by simpa using hu
    rw [← e]
    exact hr.cell0
  · intro u hu
    obtain rfl : u = _ := by simpa using hu
    rfl
  · intro u hu
    obtain rfl : u = _ := by simpa using hu
    rfl
  · unfold OwnZ
    rw [List.length_append, List.length_singleton, hN, List.map_append]; exact q1
theorem encP_len (xs : List ItP) (hs : ∀ x ∈ xs, itSmall x ∧ itKeys x) : (encP xs).1.length ≤ 5002 * xs.length := by
  have h1 := encK_len xs hs xs.length (Nat.le_refl _)
  have h2 := encK_out xs xs.length (Nat.le_refl _)
  rw [List.take_length] at h2
  unfold encP
  split
  · rw [h2]
    unfold doneP
    split
    · exact h1
    · simp
  · simp
theorem u8s0 : #[Value.int .u8 0] = u8s [0] := by rw [u8s_def]; simp [n8_def]
set_option maxRecDepth 100000 in
set_option maxHeartbeats 12800000 in
theorem walk_CodecBack (v : Value) (xs : List ItP) (left : Int) (w : World) (hraw : RawIts w v xs) (hl1 : -9223372036854775808 ≤ left) (hl2 : left ≤ 9223372036854775807) :
    Calls Try.prog 5 #[v, .int .i64 left] w (TrueRes' w) := by
  have hk := hraw.keys
  have HR := Lib.hid hraw
  cases hs : shortP xs with
  | false =>
    have S := fun W h => shortR_any v xs W h
    rw [hs] at S
    have HS := Lib.hid S
    clear S hs
    go_enter Try.func5, Try.ntmps5
    go_wp2_with fail
    refine (awake9_any _).mono ?_
    rintro e w1 ⟨rfl, b1⟩
    go_wp2_with fail
    refine (HS.out _ (hraw.step b1)).mono ?_
    rintro e w2 ⟨rfl, rfl⟩
    go_wp2_with fail
    go_ret
    exact ⟨rfl, b1⟩
  | true =>
    obtain ⟨h20, hsm⟩ := short_small hs
    have hok : ∀ x ∈ xs, itSmall x ∧ itKeys x := fun x hx => ⟨hsm x hx, hk x hx⟩
    have S := fun W h => shortR_any v xs W h
    rw [hs] at S
    have HS := Lib.hid S
    have E1 := fun W h => encode_any v xs W h h20 hok
    unfold EncTo at E1
    have hits := hraw.its hsm
    have HSM := Lib.hid hsm
    have hnil := enc_err_nil xs
    have hback := back_all xs hk
    have hbl := encP_len xs hok
    obtain ⟨E, hE⟩ : ∃ E, E = (encP xs).2 := ⟨_, rfl⟩
    obtain ⟨bs, hbs⟩ : ∃ bs, bs = (encP xs).1 := ⟨_, rfl⟩
    rw [← hE, ← hbs] at E1 hnil hback
    rw [← hbs] at hbl
    have H1 := Lib.hid E1
    clear S hs hsm hok hk hE hbs E1
    by_cases he : E = 0
    · obtain ⟨-, hd1, hd2, hd3⟩ := hback he
      have HD1 := Lib.hid hd1; have HD2 := Lib.hid hd2; have HD3 := Lib.hid hd3
      rw [he] at H1
      clear hnil hback he hd1 hd2 hd3
      obtain ⟨A, c, rfl, hc, hel⟩ := id hits
      obtain ⟨n, hN⟩ : ∃ n, n = xs.length := ⟨_, rfl⟩
      have HN := Lib.hid hN
      have HITS := Lib.hid hits
      have HEL := Lib.hid hel
      have hnn : n ≤ 20 := by omega
      have hcn : n ≤ c := by omega
      rw [← hN] at H1 HS HR HITS ⊢
      clear hel hits hraw hN h20 hc
      go_enter Try.func5, Try.ntmps5
      go_wp2_with fail
      refine (awake9_any _).mono ?_
      rintro e w1 ⟨rfl, b1⟩
      go_wp2_with fail
      refine (HS.out _ (HR.out.step b1)).mono ?_
      rintro e w2 ⟨rfl, rfl⟩
      go_wp2_with fail
      refine (H1.out _ (HITS.out.step b1)).mono ?_
      rintro e w3 ⟨ub, rfl, hub, b3⟩
      have hb3 := b1.trans (b3.mono b1.size)
      have hz03 := hb3.size
      go_wp2_with fail
      go_loopw [9, 10, 11] (fun o1 o2 i wr => ∃ k : Nat, k ≤ n ∧ i = .int .i64 k ∧ OwnZ wr w3.heap.size o1 ((xs.take k).map ItP.kind) ∧ OwnI 44 wr w3.heap.size o2 ((xs.take k).map itN) ∧ (∀ kk, o1.ownBlock = some kk → o2.ownBlock ≠ some kk) ∧ Below w3.heap.size w3 wr) (fun _ _ i _ => n - (intOf i).toNat)
      case atStart => exact ⟨0, Nat.zero_le _, rfl, OwnZ.nil _ _, OwnI.nil _ _ _, (fun kk h => by cases h), Below.refl _ _⟩
      case round =>
        obtain ⟨k, hk, rfl, own1, own2, hap, hb⟩ := hrel
        by_cases hlt : k < n
        · have hlt' : k < xs.length := by rw [← HN.out]; exact hlt
          obtain ⟨ga, oa, rfl, hga, hit⟩ := HEL.out (by omega)
          obtain ⟨vb, vl, it⟩ := hit k hlt'
          have hbr := hb3.trans (hb.mono hz03)
          obtain ⟨A1, c1, A2, c2, rfl, rfl⟩ := ItsL.isSlice it
          have it3 := it.step hga hbr
          obtain ⟨q0, q1, q2, q3, hvb, hvl, hkk⟩ := it3
          have hs1 : ((xs.take (k + 1)).map ItP.kind) = (xs.take k).map ItP.kind ++ [(nthI xs k).kind] := by rw [take_succI xs k hlt', List.map_append]; rfl
          have hs2 : ((xs.take (k + 1)).map itN) = (xs.take k).map itN ++ [itN (nthI xs k)] := by rw [take_succI xs k hlt', List.map_append]; rfl
          have htl1 : ((xs.take k).map ItP.kind).length = k := by rw [List.length_map, List.length_take]; omega
          have htl : ((xs.take k).map itN).length + 1 = k + 1 := by rw [List.length_map, List.length_take]; omega
          obtain ⟨x, hx⟩ : ∃ x, x = nthI xs k := ⟨_, rfl⟩
          rw [← hx] at q0 q1 q2 q3 hvb hvl hkk hs1 hs2
          have HS1 := Lib.hid hs1; have HS2 := Lib.hid hs2; have HTL1 := Lib.hid htl1; have HTL := Lib.hid htl
          have hk0 : (0 : Int) ≤ (k : Int) := by omega
          have hk1 : (k : Int) < (n : Int) := by omega
          obtain ⟨B1, d1c, rfl, hd1c⟩ := OwnG.slice (show OwnG 3 1 no8V wr w3.heap.size _ _ _ from own1)
          obtain ⟨B2, d2c, rfl, hd2c⟩ := own2.slice
          rw [htl1] at own1 hap ⊢
          rw [show ((xs.take k).map itN).length = k by omega] at own2 hap ⊢
          have hqz : Below wr.heap.size wr (wr.alloc (.cells #[.int .i64 x.kind] 3)) := (by repeat (first | with_reducible exact Below.refl _ _ | with_reducible assumption | refine Below.drew ?_ | refine below_drewN ?_ | refine Below.alloc ?_ (by first | omega | (simp; done) | (simp; omega)) _ | refine below_setRow ?_ (by omega) _ | refine Below.setCell ?_ (by first | omega | (simp; done) | (simp; omega)) _))
          have Rz : RowIs (wr.alloc (.cells #[.int .i64 x.kind] 3)) wr.heap.size #[.int .i64 x.kind] := RowIs.new _ _ _
          have own1z := own1.step hqz
          have own2z := own2.step hqz
          have hszr := hb.size
          have hszz : w3.heap.size ≤ (wr.alloc (.cells #[.int .i64 x.kind] 3)).heap.size := Nat.le_trans hszr hqz.size
          clear hit it hx hs1 hs2 htl1 htl
          by_cases h9 : x.kind = 9
          · have hin : itN x = ⟨9, 0, x.b, []⟩ := by unfold itN; rw [if_pos h9, h9]
            have HIN := Lib.hid hin
            have HK9 := Lib.hid h9
            rw [h9] at q0 Rz own1z own2z hszz hqz
            clear hin h9
            go_wp2_with (at_builtin; first
              | (refine wpList_appendZ rfl (.tmp 45) (.tmp 51) rfl rfl own1z rfl Rz (by rw [HTL1.out]) (by omega) hszz ?_; intro A5 c5 w5 own15 gr5 ob5 bel5 no5
                 rw [← HK9.out] at own15
                 have own25 : OwnI 44 w5 w3.heap.size (.slice B2 k d2c) ((xs.take k).map itN) := own2z.grownNe gr5 no5 (fun kk hk => hap kk hk)
                 have hap5 : ∀ kk, (Value.slice A5 (k + 1) c5).ownBlock = some kk → (Value.slice B2 k d2c).ownBlock ≠ some kk := fun kk hk hk2 => by
                   rcases ob5 with e | e
                   · exact hap kk (e.symm.trans hk) hk2
                   · rw [e] at hk
                     have := (own2.lt hk2).2
                     have e3 := Option.some.inj hk
                     rw [World.size_alloc] at e3
                     omega
                 have hb5 : Below w3.heap.size w3 w5 := (hb.trans (hqz.mono hb.size)).trans bel5
                 have hga5 : ga < w5.heap.size := by have := hb5.size; omega
                 have hw5 := hb3.trans (hb5.mono hz03)
                 have hwr5 : Below w3.heap.size wr w5 := (hqz.mono hszr).trans bel5
                 have hga3 : ga < w3.heap.size := by omega
                 have t0 := (hwr5.cell (p := ⟨ga, oa + k * 4, none⟩) hga3).trans q0
                 have t1 := (hwr5.cell (p := ⟨ga, oa + k * 4 + 1, none⟩) hga3).trans q1
                 have t2 := (hwr5.cell (p := ⟨ga, oa + k * 4 + 2, none⟩) hga3).trans q2
                 have t3 := (hwr5.cell (p := ⟨ga, oa + k * 4 + 3, none⟩) hga3).trans q3
                 have hvb5 := (hvb.step hqz).grown gr5 no5
                 have hvl5 := (hvl.step hqz).grown hkk gr5 no5
                 clear q0 q1 q2 q3
                 obtain ⟨wx, hwxe⟩ : ∃ wx, wx = w5.alloc (.cells #[.int .i64 9, .int .u64 0, .slice none 0 0, .slice none 0 0] 44) := ⟨_, rfl⟩
                 have hqx : Below w5.heap.size w5 wx := by rw [hwxe]; exact (by repeat (first | with_reducible exact Below.refl _ _ | with_reducible assumption | refine Below.drew ?_ | refine below_drewN ?_ | refine Below.alloc ?_ (by first | omega | (simp; done) | (simp; omega)) _ | refine below_setRow ?_ (by omega) _ | refine Below.setCell ?_ (by first | omega | (simp; done) | (simp; omega)) _))
                 have hxr : RowIs wx w5.heap.size #[.int .i64 9, .int .u64 0, .slice none 0 0, .slice none 0 0] := by rw [hwxe]; exact RowIs.new _ _ _
                 have m0 := (hqx.cell (p := ⟨ga, oa + k * 4, none⟩) hga5).trans t0
                 have m1 := (hqx.cell (p := ⟨ga, oa + k * 4 + 1, none⟩) hga5).trans t1
                 have m2 := (hqx.cell (p := ⟨ga, oa + k * 4 + 2, none⟩) hga5).trans t2
                 have m3 := (hqx.cell (p := ⟨ga, oa + k * 4 + 3, none⟩) hga5).trans t3
                 obtain ⟨p0, p1, p2, p3⟩ := it_cells hxr
                 have fx := hxr.fz 2
                 obtain ⟨wy, hwy⟩ : ∃ wy, wy = w5.alloc (.cells #[.int .i64 9, .int .u64 0, .slice A1 x.b.length c1, .slice none 0 0] 44) := ⟨_, rfl⟩
                 have hqy : Below w5.heap.size w5 wy := by rw [hwy]; exact (by repeat (first | with_reducible exact Below.refl _ _ | with_reducible assumption | refine Below.drew ?_ | refine below_drewN ?_ | refine Below.alloc ?_ (by first | omega | (simp; done) | (simp; omega)) _ | refine below_setRow ?_ (by omega) _ | refine Below.setCell ?_ (by first | omega | (simp; done) | (simp; omega)) _))
                 have hx6 : RowIs wy w5.heap.size #[.int .i64 9, .int .u64 0, .slice A1 x.b.length c1, .slice none 0 0] := by rw [hwy]; exact RowIs.new _ _ _
                 have own26 := own25.step hqy
                 have own16 := own15.step hqy
                 have hy5 : Below w3.heap.size w3 wy := hb5.trans (hqy.mono hb5.size)
                 obtain ⟨d0, d1, d2, d3⟩ := it_cells hx6
                 obtain ⟨w6, hw6⟩ : ∃ w6, w6 = wy.alloc (.cells #[.int .i64 9, .int .u64 0, .slice A1 x.b.length c1, .slice none 0 0] 44) := ⟨_, rfl⟩
                 have hq6 : Below wy.heap.size wy w6 := by rw [hw6]; exact (by repeat (first | with_reducible exact Below.refl _ _ | with_reducible assumption | refine Below.drew ?_ | refine below_drewN ?_ | refine Below.alloc ?_ (by first | omega | (simp; done) | (simp; omega)) _ | refine below_setRow ?_ (by omega) _ | refine Below.setCell ?_ (by first | omega | (simp; done) | (simp; omega)) _))
                 have R6 : RowIs w6 wy.heap.size (itC (itN x) (.slice A1 x.b.length c1) (.slice none 0 0)) := by
                   rw [hw6]
                   have := RowIs.new wy #[.int .i64 9, .int .u64 0, .slice A1 x.b.length c1, .slice none 0 0] 44
                   rw [HIN.out]; simpa [itC, n64_def] using this
                 have hszy : wy.heap.size = w5.heap.size + 1 := by rw [hwy]; simp
                 rw [hszy] at R6
                 have own27 := own26.step hq6
                 have own17 := own16.step hq6
                 have hb6 : Below w3.heap.size w3 w6 := hy5.trans (hq6.mono hy5.size)
                 have hB6 : Bs w6 (.slice A1 x.b.length c1) (itN x).b := HIN.out ▸ ((hvb5.step hqy).step hq6)
                 have hL6 : KsL w6 (.slice none 0 0) (itN x).l := HIN.out ▸ KsL.nil _
                 have hz77 := hb6.size
                 have HW6 := Lib.hid hw6
                 rw [hw6, hwy] at own27 R6 hz77 hB6 hL6
                 rw [hwy] at d0 d1 d2 d3
                 rw [hwxe] at m0 m1 m2 m3 p0 p1 p2 p3 fx
                 have HWY := Lib.hid hwy; have HWX := Lib.hid hwxe
                 clear hwxe hwy hw6
                )
              | (refine wpList_appendI Try.underlying30 ritInfo rfl (.tmp 86) (.tmp 88) rfl rfl own27 rfl R6 hB6 hL6 (by rw [HIN.out]; exact fun y hy => by simp at hy) (by rw [HTL.out]) (by omega) hz77 ?_; intro A8 c8 w8 own28 gr8 ob8 bel8 no8))
            rw [← HWY.out, ← HW6.out] at gr8 ob8 bel8 no8
            have own18 : OwnZ w8 w3.heap.size (.slice A5 (k + 1) c5) ((xs.take k).map ItP.kind ++ [x.kind]) := own17.grown gr8 (fun kk hk hk2 => hap5 kk hk hk2)
            have hap8 : ∀ kk, (Value.slice A5 (k + 1) c5).ownBlock = some kk → (Value.slice A8 (k + 1) c8).ownBlock ≠ some kk := fun kk hk hk2 => by
              rcases ob8 with e | e
              · exact hap5 kk hk (e.symm.trans hk2)
              · rw [e] at hk2
                have := (own17.lt hk).2
                have := Option.some.inj hk2
                omega
            exact ⟨⟨k + 1, by omega, by go_num, by rw [HS1.out]; exact own18, by rw [HS2.out]; exact own28, hap8, hb6.trans bel8⟩, by simp [intOf]; omega⟩
          · by_cases h32 : x.kind = 32
            · have hin : itN x = ⟨32, 0, [], x.l⟩ := by unfold itN; rw [if_neg h9, if_pos h32, h32]
              have HIN := Lib.hid hin
              have HK9 := Lib.hid h32
              rw [h32] at q0 Rz own1z own2z hszz hqz
              clear hin h9 h32
              go_wp2_with (at_builtin; first
                | (refine wpList_appendZ rfl (.tmp 45) (.tmp 51) rfl rfl own1z rfl Rz (by rw [HTL1.out]) (by omega) hszz ?_; intro A5 c5 w5 own15 gr5 ob5 bel5 no5
                   rw [← HK9.out] at own15
                   have own25 : OwnI 44 w5 w3.heap.size (.slice B2 k d2c) ((xs.take k).map itN) := own2z.grownNe gr5 no5 (fun kk hk => hap kk hk)
                   have hap5 : ∀ kk, (Value.slice A5 (k + 1) c5).ownBlock = some kk → (Value.slice B2 k d2c).ownBlock ≠ some kk := fun kk hk hk2 => by
                     rcases ob5 with e | e
                     · exact hap kk (e.symm.trans hk) hk2
                     · rw [e] at hk
                       have := (own2.lt hk2).2
                       have e3 := Option.some.inj hk
                       rw [World.size_alloc] at e3
                       omega
                   have hb5 : Below w3.heap.size w3 w5 := (hb.trans (hqz.mono hb.size)).trans bel5
                   have hga5 : ga < w5.heap.size := by have := hb5.size; omega
                   have hw5 := hb3.trans (hb5.mono hz03)
                   have hwr5 : Below w3.heap.size wr w5 := (hqz.mono hszr).trans bel5
                   have hga3 : ga < w3.heap.size := by omega
                   have t0 := (hwr5.cell (p := ⟨ga, oa + k * 4, none⟩) hga3).trans q0
                   have t1 := (hwr5.cell (p := ⟨ga, oa + k * 4 + 1, none⟩) hga3).trans q1
                   have t2 := (hwr5.cell (p := ⟨ga, oa + k * 4 + 2, none⟩) hga3).trans q2
                   have t3 := (hwr5.cell (p := ⟨ga, oa + k * 4 + 3, none⟩) hga3).trans q3
                   have hvb5 := (hvb.step hqz).grown gr5 no5
                   have hvl5 := (hvl.step hqz).grown hkk gr5 no5
                   clear q0 q1 q2 q3
                   obtain ⟨wx, hwxe⟩ : ∃ wx, wx = w5.alloc (.cells #[.int .i64 32, .int .u64 0, .slice none 0 0, .slice none 0 0] 44) := ⟨_, rfl⟩
                   have hqx : Below w5.heap.size w5 wx := by rw [hwxe]; exact (by repeat (first | with_reducible exact Below.refl _ _ | with_reducible assumption | refine Below.drew ?_ | refine below_drewN ?_ | refine Below.alloc ?_ (by first | omega | (simp; done) | (simp; omega)) _ | refine below_setRow ?_ (by omega) _ | refine Below.setCell ?_ (by first | omega | (simp; done) | (simp; omega)) _))
                   have hxr : RowIs wx w5.heap.size #[.int .i64 32, .int .u64 0, .slice none 0 0, .slice none 0 0] := by rw [hwxe]; exact RowIs.new _ _ _
                   have m0 := (hqx.cell (p := ⟨ga, oa + k * 4, none⟩) hga5).trans t0
                   have m1 := (hqx.cell (p := ⟨ga, oa + k * 4 + 1, none⟩) hga5).trans t1
                   have m2 := (hqx.cell (p := ⟨ga, oa + k * 4 + 2, none⟩) hga5).trans t2
                   have m3 := (hqx.cell (p := ⟨ga, oa + k * 4 + 3, none⟩) hga5).trans t3
                   obtain ⟨p0, p1, p2, p3⟩ := it_cells hxr
                   have fx := hxr.fz 3
                   obtain ⟨wy, hwy⟩ : ∃ wy, wy = w5.alloc (.cells #[.int .i64 32, .int .u64 0, .slice none 0 0, .slice A2 x.l.length c2] 44) := ⟨_, rfl⟩
                   have hqy : Below w5.heap.size w5 wy := by rw [hwy]; exact (by repeat (first | with_reducible exact Below.refl _ _ | with_reducible assumption | refine Below.drew ?_ | refine below_drewN ?_ | refine Below.alloc ?_ (by first | omega | (simp; done) | (simp; omega)) _ | refine below_setRow ?_ (by omega) _ | refine Below.setCell ?_ (by first | omega | (simp; done) | (simp; omega)) _))
                   have hx6 : RowIs wy w5.heap.size #[.int .i64 32, .int .u64 0, .slice none 0 0, .slice A2 x.l.length c2] := by rw [hwy]; exact RowIs.new _ _ _
                   have own26 := own25.step hqy
                   have own16 := own15.step hqy
                   have hy5 : Below w3.heap.size w3 wy := hb5.trans (hqy.mono hb5.size)
                   obtain ⟨d0, d1, d2, d3⟩ := it_cells hx6
                   obtain ⟨w6, hw6⟩ : ∃ w6, w6 = wy.alloc (.cells #[.int .i64 32, .int .u64 0, .slice none 0 0, .slice A2 x.l.length c2] 44) := ⟨_, rfl⟩
                   have hq6 : Below wy.heap.size wy w6 := by rw [hw6]; exact (by repeat (first | with_reducible exact Below.refl _ _ | with_reducible assumption | refine Below.drew ?_ | refine below_drewN ?_ | refine Below.alloc ?_ (by first | omega | (simp; done) | (simp; omega)) _ | refine below_setRow ?_ (by omega) _ | refine Below.setCell ?_ (by first | omega | (simp; done) | (simp; omega)) _))
                   have R6 : RowIs w6 wy.heap.size (itC (itN x) (.slice none 0 0) (.slice A2 x.l.length c2)) := by
                     rw [hw6]
                     have := RowIs.new wy #[.int .i64 32, .int .u64 0, .slice none 0 0, .slice A2 x.l.length c2] 44
                     rw [HIN.out]; simpa [itC, n64_def] using this
                   have hszy : wy.heap.size = w5.heap.size + 1 := by rw [hwy]; simp
                   rw [hszy] at R6
                   have own27 := own26.step hq6
                   have own17 := own16.step hq6
                   have hb6 : Below w3.heap.size w3 w6 := hy5.trans (hq6.mono hy5.size)
                   have hB6 : Bs w6 (.slice none 0 0) (itN x).b := HIN.out ▸ Bs.nil _
                   have hL6 : KsL w6 (.slice A2 x.l.length c2) (itN x).l := HIN.out ▸ ((hvl5.step hqy).step hq6)
                   have hz77 := hb6.size
                   have HW6 := Lib.hid hw6
                   rw [hw6, hwy] at own27 R6 hz77 hB6 hL6
                   rw [hwy] at d0 d1 d2 d3
                   rw [hwxe] at m0 m1 m2 m3 p0 p1 p2 p3 fx
                   have HWY := Lib.hid hwy; have HWX := Lib.hid hwxe
                   clear hwxe hwy hw6
                  )
                | (refine wpList_appendI Try.underlying30 ritInfo rfl (.tmp 86) (.tmp 88) rfl rfl own27 rfl R6 hB6 hL6 (by rw [HIN.out]; exact hkk) (by rw [HTL.out]) (by omega) hz77 ?_; intro A8 c8 w8 own28 gr8 ob8 bel8 no8))
              rw [← HWY.out, ← HW6.out] at gr8 ob8 bel8 no8
              have own18 : OwnZ w8 w3.heap.size (.slice A5 (k + 1) c5) ((xs.take k).map ItP.kind ++ [x.kind]) := own17.grown gr8 (fun kk hk hk2 => hap5 kk hk hk2)
              have hap8 : ∀ kk, (Value.slice A5 (k + 1) c5).ownBlock = some kk → (Value.slice A8 (k + 1) c8).ownBlock ≠ some kk := fun kk hk hk2 => by
                rcases ob8 with e | e
                · exact hap5 kk hk (e.symm.trans hk2)
                · rw [e] at hk2
                  have := (own17.lt hk).2
                  have := Option.some.inj hk2
                  omega
              exact ⟨⟨k + 1, by omega, by go_num, by rw [HS1.out]; exact own18, by rw [HS2.out]; exact own28, hap8, hb6.trans bel8⟩, by simp [intOf]; omega⟩
            · have hin : itN x = ⟨x.kind, x.n, [], []⟩ := by unfold itN; rw [if_neg h9, if_neg h32]
              have f9 : (x.kind == (9 : Int)) = false := by simpa using h9
              have f32 : (x.kind == (32 : Int)) = false := by simpa using h32
              have HIN := Lib.hid hin
              clear hin h9 h32
              go_wp2_with (at_builtin; first
                | (refine wpList_appendZ rfl (.tmp 45) (.tmp 51) rfl rfl own1z rfl Rz (by rw [HTL1.out]) (by omega) hszz ?_; intro A5 c5 w5 own15 gr5 ob5 bel5 no5
                   have own25 : OwnI 44 w5 w3.heap.size (.slice B2 k d2c) ((xs.take k).map itN) := own2z.grownNe gr5 no5 (fun kk hk => hap kk hk)
                   have hap5 : ∀ kk, (Value.slice A5 (k + 1) c5).ownBlock = some kk → (Value.slice B2 k d2c).ownBlock ≠ some kk := fun kk hk hk2 => by
                     rcases ob5 with e | e
                     · exact hap kk (e.symm.trans hk) hk2
                     · rw [e] at hk
                       have := (own2.lt hk2).2
                       have e3 := Option.some.inj hk
                       rw [World.size_alloc] at e3
                       omega
                   have hb5 : Below w3.heap.size w3 w5 := (hb.trans (hqz.mono hb.size)).trans bel5
                   have hga5 : ga < w5.heap.size := by have := hb5.size; omega
                   have hw5 := hb3.trans (hb5.mono hz03)
                   have hwr5 : Below w3.heap.size wr w5 := (hqz.mono hszr).trans bel5
                   have hga3 : ga < w3.heap.size := by omega
                   have t0 := (hwr5.cell (p := ⟨ga, oa + k * 4, none⟩) hga3).trans q0
                   have t1 := (hwr5.cell (p := ⟨ga, oa + k * 4 + 1, none⟩) hga3).trans q1
                   have t2 := (hwr5.cell (p := ⟨ga, oa + k * 4 + 2, none⟩) hga3).trans q2
                   have t3 := (hwr5.cell (p := ⟨ga, oa + k * 4 + 3, none⟩) hga3).trans q3
                   have hvb5 := (hvb.step hqz).grown gr5 no5
                   have hvl5 := (hvl.step hqz).grown hkk gr5 no5
                   clear q0 q1 q2 q3
                   obtain ⟨wx, hwxe⟩ : ∃ wx, wx = w5.alloc (.cells #[.int .i64 x.kind, .int .u64 0, .slice none 0 0, .slice none 0 0] 44) := ⟨_, rfl⟩
                   have hqx : Below w5.heap.size w5 wx := by rw [hwxe]; exact (by repeat (first | with_reducible exact Below.refl _ _ | with_reducible assumption | refine Below.drew ?_ | refine below_drewN ?_ | refine Below.alloc ?_ (by first | omega | (simp; done) | (simp; omega)) _ | refine below_setRow ?_ (by omega) _ | refine Below.setCell ?_ (by first | omega | (simp; done) | (simp; omega)) _))
                   have hxr : RowIs wx w5.heap.size #[.int .i64 x.kind, .int .u64 0, .slice none 0 0, .slice none 0 0] := by rw [hwxe]; exact RowIs.new _ _ _
                   have m0 := (hqx.cell (p := ⟨ga, oa + k * 4, none⟩) hga5).trans t0
                   have m1 := (hqx.cell (p := ⟨ga, oa + k * 4 + 1, none⟩) hga5).trans t1
                   have m2 := (hqx.cell (p := ⟨ga, oa + k * 4 + 2, none⟩) hga5).trans t2
                   have m3 := (hqx.cell (p := ⟨ga, oa + k * 4 + 3, none⟩) hga5).trans t3
                   obtain ⟨p0, p1, p2, p3⟩ := it_cells hxr
                   have fx := hxr.fz 1
                   obtain ⟨wy, hwy⟩ : ∃ wy, wy = w5.alloc (.cells #[.int .i64 x.kind, .int .u64 (n64 x.n), .slice none 0 0, .slice none 0 0] 44) := ⟨_, rfl⟩
                   have hqy : Below w5.heap.size w5 wy := by rw [hwy]; exact (by repeat (first | with_reducible exact Below.refl _ _ | with_reducible assumption | refine Below.drew ?_ | refine below_drewN ?_ | refine Below.alloc ?_ (by first | omega | (simp; done) | (simp; omega)) _ | refine below_setRow ?_ (by omega) _ | refine Below.setCell ?_ (by first | omega | (simp; done) | (simp; omega)) _))
                   have hx6 : RowIs wy w5.heap.size #[.int .i64 x.kind, .int .u64 (n64 x.n), .slice none 0 0, .slice none 0 0] := by rw [hwy]; exact RowIs.new _ _ _
                   have own26 := own25.step hqy
                   have own16 := own15.step hqy
                   have hy5 : Below w3.heap.size w3 wy := hb5.trans (hqy.mono hb5.size)
                   obtain ⟨d0, d1, d2, d3⟩ := it_cells hx6
                   obtain ⟨w6, hw6⟩ : ∃ w6, w6 = wy.alloc (.cells #[.int .i64 x.kind, .int .u64 (n64 x.n), .slice none 0 0, .slice none 0 0] 44) := ⟨_, rfl⟩
                   have hq6 : Below wy.heap.size wy w6 := by rw [hw6]; exact (by repeat (first | with_reducible exact Below.refl _ _ | with_reducible assumption | refine Below.drew ?_ | refine below_drewN ?_ | refine Below.alloc ?_ (by first | omega | (simp; done) | (simp; omega)) _ | refine below_setRow ?_ (by omega) _ | refine Below.setCell ?_ (by first | omega | (simp; done) | (simp; omega)) _))
                   have R6 : RowIs w6 wy.heap.size (itC (itN x) (.slice none 0 0) (.slice none 0 0)) := by
                     rw [hw6]
                     have := RowIs.new wy #[.int .i64 x.kind, .int .u64 (n64 x.n), .slice none 0 0, .slice none 0 0] 44
                     rw [HIN.out]; simpa [itC, n64_def] using this
                   have hszy : wy.heap.size = w5.heap.size + 1 := by rw [hwy]; simp
                   rw [hszy] at R6
                   have own27 := own26.step hq6
                   have own17 := own16.step hq6
                   have hb6 : Below w3.heap.size w3 w6 := hy5.trans (hq6.mono hy5.size)
                   have hB6 : Bs w6 (.slice none 0 0) (itN x).b := HIN.out ▸ Bs.nil _
                   have hL6 : KsL w6 (.slice none 0 0) (itN x).l := HIN.out ▸ KsL.nil _
                   have hz77 := hb6.size
                   have HW6 := Lib.hid hw6
                   rw [hw6, hwy] at own27 R6 hz77 hB6 hL6
                   rw [hwy] at d0 d1 d2 d3
                   rw [hwxe] at m0 m1 m2 m3 p0 p1 p2 p3 fx
                   have HWY := Lib.hid hwy; have HWX := Lib.hid hwxe
                   clear hwxe hwy hw6
                  )
                | (refine wpList_appendI Try.underlying30 ritInfo rfl (.tmp 86) (.tmp 88) rfl rfl own27 rfl R6 hB6 hL6 (by rw [HIN.out]; exact fun y hy => by simp at hy) (by rw [HTL.out]) (by omega) hz77 ?_; intro A8 c8 w8 own28 gr8 ob8 bel8 no8))
              rw [← HWY.out, ← HW6.out] at gr8 ob8 bel8 no8
              have own18 : OwnZ w8 w3.heap.size (.slice A5 (k + 1) c5) ((xs.take k).map ItP.kind ++ [x.kind]) := own17.grown gr8 (fun kk hk hk2 => hap5 kk hk hk2)
              have hap8 : ∀ kk, (Value.slice A5 (k + 1) c5).ownBlock = some kk → (Value.slice A8 (k + 1) c8).ownBlock ≠ some kk := fun kk hk hk2 => by
                rcases ob8 with e | e
                · exact hap5 kk hk (e.symm.trans hk2)
                · rw [e] at hk2
                  have := (own17.lt hk).2
                  have := Option.some.inj hk2
                  omega
              exact ⟨⟨k + 1, by omega, by go_num, by rw [HS1.out]; exact own18, by rw [HS2.out]; exact own28, hap8, hb6.trans bel8⟩, by simp [intOf]; omega⟩
        · have e : k = n := by omega
          have ht : xs.take k = xs := List.take_of_length_le (by rw [e, HN.out]; exact Nat.le_refl _)
          have hxl : xs.length ≤ 20 := by rw [← HN.out]; exact hnn
          have htl1 : ((xs.take k).map ItP.kind).length = k := by rw [List.length_map, List.length_take]; have := HN.out; omega
          have htl : ((xs.take k).map itN).length = k := by rw [List.length_map, List.length_take]; have := HN.out; omega
          obtain ⟨B1, d1c, rfl, hd1c⟩ := OwnG.slice (show OwnG 3 1 no8V wr w3.heap.size _ _ _ from own1)
          obtain ⟨B2, d2c, rfl, hd2c⟩ := own2.slice
          rw [htl1] at own1 hap ⊢
          rw [htl] at own2 hap ⊢
          rw [ht] at own1 own2
          clear htl1 htl hd1c hd2c
          have hZ := own1.ints
          have hI := own2.its
          have hbb : bs.length ≤ 200000 := by omega
          have hub2 := hub.step hb
          have HSL := Lib.hid (fun y (hy : y ∈ xs) => (HSM.out y hy).2)
          have hnl : (xs.map itN).length ≤ 1000 := by rw [List.length_map]; omega
          have hil : ∀ y ∈ xs.map itN, y.l.length ≤ 1000000 := by
            intro y hy
            rw [List.mem_map] at hy
            obtain ⟨z, hz, rfl⟩ := hy
            have := HSL.out z hz
            unfold itN
            split
            · simp
            · split
              · show z.l.length ≤ 1000000; omega
              · simp
          have D1 := fun W h h' => decode_any (.slice B1 k d1c) ub (xs.map ItP.kind) bs W h h' (by rw [List.length_map]; omega)
          unfold DecTo at D1
          rw [HD1.out] at D1
          have D2 := fun u W h h' => decode_any (.slice B1 k d1c) u (xs.map ItP.kind) (bs ++ [0]) W h h' (by rw [List.length_map]; omega)
          unfold DecTo at D2
          rw [HD2.out] at D2
          have D3 := fun u m W h h' => decode_any (.slice B1 k d1c) u (xs.map ItP.kind) (bs.take m) W h h' (by rw [List.length_map]; omega)
          have G1 := Lib.hid D1; have G2 := Lib.hid D2
          have G3 : Hid (∀ u m, m < bs.length → ∀ W, IntsL W (.slice B1 k d1c) (xs.map ItP.kind) → Bs W u (bs.take m) → Calls Try.prog 21 #[(.slice B1 k d1c), u] W (fun e w' => ∃ u', e = .returned (.tuple #[u', .int .i64 3]) ∧ Below W.heap.size W w')) := Lib.hid (fun u m hm W h h' => (D3 u m W h h').mono fun e w' ⟨u', h1, _, h3⟩ => ⟨u', by rw [HD3.out m hm] at h1; exact h1, h3⟩)
          have HNL := Lib.hid hnl; have HIL := Lib.hid hil
          clear D1 D2 D3 own1 own2 hap ht hnl hil
          obtain ⟨XK, hXK⟩ : ∃ XK, XK = xs.map ItP.kind := ⟨_, rfl⟩
          obtain ⟨XN, hXN⟩ : ∃ XN, XN = xs.map itN := ⟨_, rfl⟩
          rw [← hXK] at hZ G1 G2 G3
          rw [← hXN] at hI G1 HNL HIL
          clear hXK hXN
          have hbr := hb3.trans (hb.mono hz03)
          subst e
          go_wp2_with fail
          refine (G1.out _ hZ hub2).mono ?_
          rintro e w5 ⟨u1, rfl, hu1, b5⟩
          replace hZ := hZ.step b5
          replace hI := hI.step b5
          replace hub2 := hub2.step b5
          replace hbr := hbr.trans (b5.mono hbr.size)
          obtain ⟨Aub, cub, rfl, -⟩ := id hub2
          have own0 := Own8.empty (T := 5) (g := w5.heap.size) w5 (base := w5.heap.size) rfl (Nat.le_refl _)
          have hq5 : Below w5.heap.size w5 (w5.alloc (.cells #[] 5)) := (by repeat (first | with_reducible exact Below.refl _ _ | with_reducible assumption | refine Below.drew ?_ | refine below_drewN ?_ | refine Below.alloc ?_ (by first | omega | (simp; done) | (simp; omega)) _ | refine below_setRow ?_ (by omega) _ | refine Below.setCell ?_ (by first | omega | (simp; done) | (simp; omega)) _))
          have hb0 := hub2.step hq5
          have hL2 : (bs ++ [0]).length = bs.length + 1 := by simp
          clear G1 b5 hub hb hb3
          go_wp2_with (at_builtin; first
            | (refine wpList_appendBs Try.underlying25 Try.info8 rfl (.tmp 98) (.tmp 99) rfl w5.heap.size rfl own0 rfl hb0 (List.nil_append _) rfl (by omega) (by simp) ?_; intro A6 c6 w6 own6 bel6; have hq6 := hq5.trans bel6; have ownb := own6.alloc (.cells #[.int .u8 0] 5); have one6 : Bs (w6.alloc (.cells #[.int .u8 0] 5)) (.slice (some ⟨w6.heap.size, 0, none⟩) 1 1) [0] := Bs.row (by rw [← u8s0]; exact RowIs.new _ _ _) 1 1 rfl (by omega) (by omega); have hq7 : Below w5.heap.size w5 (w6.alloc (.cells #[.int .u8 0] 5)) := hq6.alloc (hq6.size) _; have hz7 := hq7.size)
            | (refine wpList_appendBs Try.underlying25 Try.info8 rfl (.tmp 100) (.tmp 101) rfl w5.heap.size rfl ownb rfl one6 rfl hL2 (by omega) hz7 ?_; intro A8 c8 w8 own8 bel8))
          have b58 := hq7.trans bel8
          have hb8 := own8.bsN hL2 (by omega)
          replace hZ := hZ.step b58
          replace hI := hI.step b58
          replace hub2 := hub2.step b58
          replace hu1 := hu1.step b58
          replace hbr := hbr.trans (b58.mono hbr.size)
          clear own0 own6 ownb own8 one6 hq5 hq6 hq7 bel6 bel8 hb0 b58 hz7
          refine (G2.out _ _ hZ hb8).mono ?_
          rintro e w9 ⟨u2, rfl, -, b9⟩
          replace hZ := hZ.step b9
          replace hI := hI.step b9
          replace hub2 := hub2.step b9
          replace hu1 := hu1.step b9
          replace hbr := hbr.trans (b9.mono hbr.size)
          clear b9 hb8 G2
          go_wp2_with fail
          refine (doc_any u1 XN _ hu1 HNL.out).mono ?_
          rintro e wA ⟨u3, rfl, hu3, bA⟩
          replace hZ := hZ.step bA
          replace hI := hI.step bA
          replace hub2 := hub2.step bA
          replace hbr := hbr.trans (bA.mono hbr.size)
          clear bA hu1
          go_wp2_with fail
          refine (alike_any u3 (.slice B2 k d2c) XN XN _ hu3 hI (AllAlike.refl XN) HIL.out HNL.out).mono ?_
          rintro e wB ⟨rfl, bB⟩
          replace hZ := hZ.step bB
          replace hub2 := hub2.step bB
          replace hbr := hbr.trans (bB.mono hbr.size)
          clear bB hu3 hI
          by_cases l0 : left < 0
          · go_wp2_with fail
            go_ret
            exact ⟨rfl, hbr⟩
          · obtain ⟨m, rfl⟩ : ∃ m : Nat, left = m := ⟨left.toNat, by omega⟩
            by_cases lm : m < bs.length
            · have l1 : ¬ (bs.length : Int) ≤ m := by omega
              obtain ⟨-, hcc8, -⟩ := Bs.rd hub2
              have hto : ∀ w, (Instr.sliceAt 25 (.slice Aub bs.length cub) none (some (.int .i64 m)) none).run Try.prog w = .ok (.slice Aub m cub) w := fun w => run_upto Aub _ cub m (by omega) w
              have hpart := hub2.take m (by omega)
              go_wp2_with fail
              refine (G3.out _ m lm _ hZ hpart).mono ?_
              rintro e wC ⟨u4, rfl, bC⟩
              go_wp2_with fail
              go_ret
              exact ⟨rfl, hbr.trans (bC.mono hbr.size)⟩
            · have l1 : (bs.length : Int) ≤ m := by omega
              go_wp2_with fail
              go_ret
              exact ⟨rfl, hbr⟩
    · have hX := hnil he
      have f1 : ((E : Int) != 0) = true := by simpa using he
      rw [hX] at H1
      clear hnil hback he hX
      go_enter Try.func5, Try.ntmps5
      go_wp2_with fail
      refine (awake9_any _).mono ?_
      rintro e w1 ⟨rfl, b1⟩
      go_wp2_with fail
      refine (HS.out _ (hraw.step b1)).mono ?_
      rintro e w2 ⟨rfl, rfl⟩
      go_wp2_with fail
      refine (H1.out _ (hits.step b1)).mono ?_
      rintro e w3 ⟨ub, rfl, hub, b3⟩
      obtain ⟨Au, cu, rfl, -⟩ := hub
      go_wp2_with fail
      go_ret
      exact ⟨rfl, b1.trans (b3.mono b1.size)⟩
end Go.Proofs.Ytifnpphkplogaaa
