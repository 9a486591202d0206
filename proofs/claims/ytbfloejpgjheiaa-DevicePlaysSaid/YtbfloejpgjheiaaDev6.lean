/- Layer 11: a device's copy. -/
import Derived.Test.YtbfloejpgjheiaaDev5
namespace Go.Proofs.Ytbfloejpgjheiaa
open Go.RowKit
attribute [local go_sem ↓] xbuildW xloadW xstoreW xloadS xstoreS
attribute [local go_sem] buildW zeroW storeW loadW wcell_size_eq wcell_one z256_length bsW
/-- nothing appended to an empty slice -/
theorem run_append_no {P : Program} {w : World} {t ty e : TypeId} {i : TypeInfo} {z : Value} (ht : P.underlying t = some (.slice e)) (hi : P.info? e = some i) (hz : i.zero = some z) (b a : Addr) (c : Nat) :
    (Builtin.append_ #[t, t] ty #[.slice (some b) 0 0, .slice (some a) 0 c]).run P w = .ok (.slice (some b) 0 0) w := by
  have hf := run_firstCells_some (P := P) w i.size 0 a 0 c [] (by simp) (by simp)
  simp [Builtin.append_, run_underlying ht, sizeOf, typeInfo, zeroValue, hi, hz, Builtin.lenOf, hf]
  simp [storeCells]
theorem wpList_appK {P : Program} {w w' : World} {ops : Array Oper} {rest : List Oper} {o : Oper} {a : Act} {Q : Exit → Act → World → Prop} {t : TypeId} (hgd : o.guard = none) (s x : Operand) {vs vx v : Value}
    (ho : o.op = .call { callee := .builtin .append, args := #[s, x], argTypes := #[t, t] }) (hs : a.eval s = vs) (hx : a.eval x = vx) (hrun : (Builtin.append_ #[t, t] o.type #[vs, vx]).run P w = .ok v w')
    (h : wpList P ops Q rest (a.put o.dst v) w') : wpList P ops Q (o :: rest) a w := by
  refine wpList_plain hgd fun K hK => ?_
  unfold Oper.wp
  simp [execOp, ho, resolve, invoke, builtin, hs, hx, hrun, Result.andThen]
  exact hK _ _ h
theorem zeroCells8 (m n : Nat) (hm : 0 < m) : Builtin.zeroCells (Value.agg (Array.replicate m (.int .u8 0))).cells n = u8s (List.replicate (n * m) 0) := by
  apply Array.ext
  · simp [Builtin.zeroCells, Value.cells, u8s_size]
  · intro j h1 h2
    have hj : j % m < m := Nat.mod_lt _ hm
    simp [Builtin.zeroCells, Value.cells, u8s_def, n8_def, hj]
def ClonedS (n : Nat) (l : List UInt8) (w : World) (e : Ending) (w' : World) : Prop := ∃ g c junk, e = .returned (.slice (some ⟨g, 0, none⟩) n c) ∧ n ≤ c ∧ w.heap.size ≤ g ∧ RowIs w' g (u8s (l ++ junk)) ∧ Below w.heap.size w w'
set_option maxRecDepth 100000 in
theorem clone_sec {w : World} {g n c : Nat} {l js : List UInt8} (h : RowIs w g (u8s (l ++ js))) (hl : l.length = 256 * n) (h1 : 1 ≤ n) (h6 : n ≤ 600) :
    Calls Try.prog 31 #[.slice (some ⟨g, 0, none⟩) n c] w (ClonedS n l w) := by
  obtain ⟨i, hi1, hz, hs, hb⟩ := info_parts Try.infoSec
  have hR : RowIs (w.alloc (.cells #[] 59)) g (u8v (l ++ js)).toArray := by rw [← u8s_toArray]; exact h.alloc _
  have happ := run_append_grow (P := Try.prog) (w := w.alloc (.cells #[] 59)) 54 54 59 i _ Try.underlying54 hi1 hz ⟨w.heap.size, 0, none⟩ 0 0 [] (by simp) (by simp) ⟨g, 0, none⟩ n c (u8v l) (by rw [u8v_length, hl, hs, Nat.mul_comm]) (fun j v hv => by
    have hj : j < (u8v l).length := by
      rcases Nat.lt_or_ge j (u8v l).length with h | h
      · exact h
      · rw [List.getElem?_eq_none h] at hv; cases hv
    have := hR.range 0 (u8v (l ++ js)).length j v (by rw [List.drop_zero, List.take_length, ← u8v_append, List.getElem?_append_left hj]; exact hv)
    rw [Addr.add_mid]; exact this) (by omega) (by omega) (by rw [Nat.zero_add, nextslicecap_zero (by omega), hb]; omega)
  rw [zeroCells8 256 _ (by omega), Nat.zero_add] at happ
  obtain ⟨cap, hcap⟩ : ∃ cap, cap = grownCap (w.alloc (.cells #[] 59)) n 0 59 := ⟨_, rfl⟩
  have hge : n ≤ cap := by rw [hcap]; exact grownCap_ge _ _ _ _
  obtain ⟨js', hjs⟩ : ∃ j, j = List.replicate ((cap - n) * 256) (0 : UInt8) := ⟨_, rfl⟩
  have e : ([] : List Value).toArray ++ (u8v l).toArray ++ u8s (List.replicate ((cap - n) * 256) 0) = u8s (l ++ js') := by
    rw [← hjs, u8s_toArray, u8s_toArray, ← u8v_append]; simp
  rw [← hcap, e] at happ
  have hnil := fun (w : World) => Lib.run_eql_slice_nil (P := Try.prog) w 54 59 (some ⟨g, 0, none⟩) n c 0 0 Try.underlying54
  have fin : ClonedS n l w (.returned (.slice (some ⟨w.heap.size + 1, 0, none⟩) n cap)) ((w.alloc (.cells #[] 59)).drew.alloc (.cells (u8s (l ++ js')) 59)) :=
    ⟨_, _, js', rfl, hge, by omega, RowIs.new' (by simp), (by repeat (first | with_reducible exact Below.refl _ _ | with_reducible assumption | refine Below.drew ?_ | refine below_drewN ?_ | refine Below.alloc ?_ (by first | omega | (simp; done) | (simp; omega)) _ | refine below_setRow ?_ (by omega) _ | refine Below.setCell ?_ (by first | omega | (simp; done) | (simp; omega)) _))⟩
  have FIN := Lib.hid fin
  have HAPP := Lib.hid happ
  clear hi1 hz hs hb e hcap hjs hR h hl fin happ
  go_enter Try.func31, Try.ntmps31
  go_wp2_with (at_builtin; refine wpList_appK rfl (.tmp 5) (.tmp 6) rfl rfl rfl HAPP.out ?_)
  go_ret
  exact FIN.out
def ClonedP (ps : List (Nat × List UInt8)) (w : World) (e : Ending) (w' : World) : Prop := ∃ A c, e = .returned (.slice A ps.length c) ∧ OwnP w' (.slice A ps.length c) ps ∧ Below w.heap.size w w' ∧ ∀ k, (Value.slice A ps.length c).ownBlock = some k → w.heap.size ≤ k
set_option maxRecDepth 100000 in
theorem clone_pend {w : World} {v : Value} {ps : List (Nat × List UInt8)} (h : OwnP w v ps) (hl : ps.length ≤ 1000000) (h1 : ∀ p ∈ ps, p.2.length = 256) :
    Calls Try.prog 32 #[v] w (ClonedP ps w) := by
  obtain ⟨i, hi1, hz, hs, hb⟩ := info_parts Try.infoW
  rcases h.2 with ⟨rfl, hn⟩ | ⟨g, cap, cur, rfl, hg, hh, hcap, _, hcs, ht⟩
  · have hps : ps = [] := List.eq_nil_of_length_eq_zero hn
    subst hps
    have hnil := fun (w : World) => Lib.run_eql_slice_nil (P := Try.prog) w 55 61 none 0 0 0 0 Try.underlying55
    go_enter Try.func32, Try.ntmps32
    go_wp2_with fail
    go_ret
    exact ⟨none, 0, rfl, World.ownsRow_nil _ _ _ _, Below.refl _ _, fun k hk => by simp [Value.ownBlock] at hk⟩
  · have hnil := fun (w : World) => Lib.run_eql_slice_nil (P := Try.prog) w 55 61 (some ⟨g, 0, none⟩) ps.length cap 0 0 Try.underlying55
    by_cases h0 : ps = []
    · subst h0
      have happ := run_append_no (P := Try.prog) (w := w.alloc (.cells #[] 61)) (t := 55) (ty := 55) Try.underlying55 hi1 hz ⟨w.heap.size, 0, none⟩ ⟨g, 0, none⟩ cap
      clear hi1 hz hs hb
      have fin : ClonedP [] w (.returned (.slice (some ⟨w.heap.size, 0, none⟩) 0 0)) (w.alloc (.cells #[] 61)) :=
        ⟨some ⟨w.heap.size, 0, none⟩, 0, rfl, World.ownsRow_made w #[] 0 (Nat.zero_le _) (by simp) (by simp), (by repeat (first | with_reducible exact Below.refl _ _ | with_reducible assumption | refine Below.drew ?_ | refine below_drewN ?_ | refine Below.alloc ?_ (by first | omega | (simp; done) | (simp; omega)) _ | refine below_setRow ?_ (by omega) _ | refine Below.setCell ?_ (by first | omega | (simp; done) | (simp; omega)) _)), fun k hk => by
          have : w.heap.size = k := by simpa [Value.ownBlock] using hk
          omega⟩
      have FIN := Lib.hid fin
      have HAPP := Lib.hid happ
      clear fin hh hcs ht happ
      simp only [List.length_nil] at hnil ⊢
      go_enter Try.func32, Try.ntmps32
      go_wp2_with (at_builtin; refine wpList_appK rfl (.tmp 5) (.tmp 6) rfl rfl rfl HAPP.out ?_)
      go_ret
      exact FIN.out
    · have hlen : 0 < ps.length := by cases ps with
        | nil => exact absurd rfl h0
        | cons => simp
      obtain ⟨g2, junk, e, hrow⟩ := h.row hlen
      obtain rfl : g = g2 := by simpa using e
      have hR := hrow.alloc (.cells #[] 61)
      have hpl : (pcells ps).length = ps.length * 257 := h.1
      have hone : ∀ u ∈ pcells ps, u.oneCell' = true := fun u hu => by
        unfold pcells at hu
        obtain ⟨p, _, hp⟩ := List.mem_flatMap.1 hu
        rcases List.mem_cons.1 hp with rfl | hp
        · rfl
        · exact u8v_one _ _ hp
      obtain ⟨g', cap', w', happ, hown, hbel⟩ := run_cloneS (P := Try.prog) (w := w) (t := 55) (ty := 55) (e := 61) (c := cap) (ad := ⟨g, 0, none⟩) (n := ps.length) (news := pcells ps) Try.underlying55 hi1 hz hs hb (by simp [Value.cells]) (by omega) hpl (fun j u hu => by
        have hj : j < (pcells ps).length := by
          rcases Nat.lt_or_ge j (pcells ps).length with h | h
          · exact h
          · rw [List.getElem?_eq_none h] at hu; cases hu
        have := hR.range 0 (pcells ps ++ junk).length j u (by rw [List.drop_zero, List.take_length, List.getElem?_append_left hj]; exact hu)
        rw [Addr.add_mid]; exact this) hone hlen hl (by omega)
      have fin : ClonedP ps w (.returned (.slice (some ⟨g', 0, none⟩) ps.length cap')) w' := ⟨_, _, rfl, ⟨hown.1, by
          rcases hown.2 with h | ⟨a, b, c, h1, h2, h3⟩
          · exact .inl h
          · exact .inr ⟨a, b, c, h1, Nat.zero_le _, h3⟩⟩, hbel, fun k hk => (World.ownsRow.lt hown k hk).1⟩
      have FIN := Lib.hid fin
      clear hi1 hz hs hb hcs ht hh hR hrow hone hown fin e hpl
      obtain ⟨N, hN⟩ : ∃ N, ps.length = N := ⟨_, rfl⟩
      rw [hN] at happ FIN hnil ⊢
      have HAPP := Lib.hid happ
      clear hN happ
      go_enter Try.func32, Try.ntmps32
      go_wp2_with (at_builtin; refine wpList_appK rfl (.tmp 5) (.tmp 6) rfl rfl rfl HAPP.out ?_)
      go_ret
      exact FIN.out
def CopyRes (d : Dv) (w : World) (e : Ending) (w' : World) : Prop := ∃ L, e = .returned (.pointer (some ⟨L.g, 0, none⟩)) ∧ Dev w' L d ∧ Below w.heap.size w w' ∧ ∀ k, L.has k → w.heap.size ≤ k
def DRow (g : Nat) (a b c d e : Value) (w : World) : Prop := RowIs w g #[a, b, c, d, e]
theorem DRow.c0 {w : World} {g : Nat} {a b c d e : Value} (h : DRow g a b c d e w) : w.cell? ⟨g, 0, none⟩ = some a := (RowIs.cells5 h).1
theorem DRow.c1 {w : World} {g : Nat} {a b c d e : Value} (h : DRow g a b c d e w) : w.cell? ⟨g, 1, none⟩ = some b := (RowIs.cells5 h).2.1
theorem DRow.c2 {w : World} {g : Nat} {a b c d e : Value} (h : DRow g a b c d e w) : w.cell? ⟨g, 2, none⟩ = some c := (RowIs.cells5 h).2.2.1
theorem xloadD (ev : Operand → Value) (d : Option Tmp) (x : Operand) (ty : TypeId) (p : String) (af : Array Edge) (g : Option (Nat × Bool)) :
    execOp ev ⟨d, .load 57 x, ty, p, af, g⟩ = loadAgg 57 (ev x) := exec_loadAgg ev d _ x ty p af g
theorem xstoreD (ev : Operand → Value) (d : Option Tmp) (x y : Operand) (ty : TypeId) (p : String) (af : Array Edge) (g : Option (Nat × Bool)) :
    execOp ev ⟨d, .store 57 x y, ty, p, af, g⟩ = storeAgg 57 (ev x) (ev y) := exec_storeAgg ev d _ x y ty p af g
attribute [local go_sem ↓] xloadD xstoreD
theorem loadD (w : World) (g : Nat) {cs : Array Value} (hr : RowIs w g cs) (hc : cs.size = 5) : (loadAgg 57 (.pointer (some ⟨g, 0, none⟩))).run Try.prog w = .ok (.value (.agg cs)) w := by
  have := run_loadAgg (P := Try.prog) 5 57 (by omega) (by kernel_rfl) (by kernel_rfl) w g (by rw [hr.has]; exact hc)
  rw [hr.has] at this; exact this
theorem storeD (w : World) (g : Nat) {cs : Array Value} (hr : (rowOf w g).size = 5) (hc : cs.size = 5) (h1 : cs.all (·.oneCell') = true) : (storeAgg 57 (.pointer (some ⟨g, 0, none⟩)) (.agg cs)).run Try.prog w = .ok .skip (w.setRow g cs) :=
  run_storeAgg 5 _ (by omega) (by kernel_rfl) w g cs hr hc h1
set_option maxRecDepth 100000 in
set_option maxHeartbeats 1600000 in
theorem copy_any (L : DL) (d : Dv) (w : World) (h : Dev w L d) (hpl : d.pend.length ≤ 1000000) : Calls Try.prog 20 #[.pointer (some ⟨L.g, 0, none⟩)] w (CopyRes d w) := by
  obtain ⟨A, cp, hv⟩ := h.pend.len
  obtain ⟨vs, hvs⟩ : ∃ vs, vs = #[Value.slice (some ⟨L.bs, 0, none⟩) d.n L.cs, .slice (some ⟨L.bu, 0, none⟩) d.n L.cu, .slice A d.pend.length cp, .int .i64 d.fuse, .bool d.down] := ⟨_, rfl⟩
  have hrow : RowIs w L.g vs := by rw [hvs, ← hv]; exact h.row
  have hvz : vs.size = 5 := by rw [hvs]; rfl
  have hld := loadD w L.g hrow hvz
  have hst : (storeAgg 57 (.pointer (some ⟨w.heap.size, 0, none⟩)) (.agg vs)).run Try.prog (w.alloc (.cells #[.slice none 0 0, .slice none 0 0, .slice none 0 0, .int .i64 0, .bool false] 57)) = .ok .skip (w.alloc (.cells vs 57)) := by
    have := storeD (w.alloc (.cells #[.slice none 0 0, .slice none 0 0, .slice none 0 0, .int .i64 0, .bool false] 57)) w.heap.size (cs := vs) (by rw [(RowIs.new _ _ _).has]; rfl) hvz (by rw [hvs]; simp [Value.oneCell'])
    rw [setRow_alloc, if_neg (Nat.lt_irrefl _), if_pos rfl] at this
    exact this
  have hF : RowIs w L.g #[.slice (some ⟨L.bs, 0, none⟩) d.n L.cs, .slice (some ⟨L.bu, 0, none⟩) d.n L.cu, .slice A d.pend.length cp, .int .i64 d.fuse, .bool d.down] := by
    have := h.row
    rw [hv] at this
    exact this
  have HVS := Lib.hid hvs
  clear hvs
  go_enter Try.func20, Try.ntmps20
  go_wp2_with fail
  have hb1 : Below w.heap.size w (w.alloc (.cells vs 57)) := (by repeat (first | with_reducible exact Below.refl _ _ | with_reducible assumption | refine Below.drew ?_ | refine below_drewN ?_ | refine Below.alloc ?_ (by first | omega | (simp; done) | (simp; omega)) _ | refine below_setRow ?_ (by omega) _ | refine Below.setCell ?_ (by first | omega | (simp; done) | (simp; omega)) _))
  obtain ⟨w1, hw1⟩ : ∃ w1, w1 = w.alloc (.cells vs 57) := ⟨_, rfl⟩
  have R1 : RowIs w1 w.heap.size vs := by rw [hw1]; exact RowIs.new _ _ _
  rw [← hw1] at hb1 ⊢
  have hgL : L.g < w.heap.size := h.row.lt
  have D1 := h.step hb1
  have hs1 : w.heap.size < w1.heap.size := R1.lt
  clear hst hw1 hld hrow
  refine wp_region_lexS [] [3, 8, 13] (DRow L.g (.slice (some ⟨L.bs, 0, none⟩) d.n L.cs) (.slice (some ⟨L.bu, 0, none⟩) d.n L.cu) (.slice A d.pend.length cp) (.int .i64 d.fuse) (.bool d.down)) (by kernel_rfl) (by decide +kernel) (hF.below hb1.drew hgL) (fun hS => ?_)
  (go_wp2_with (first | (refine wpLexS_nil ?_) | (refine wpLexS_pure rfl (fun _ _ => ?_); go_simp; refine ⟨_, fun w9 hw9 => (by have s1 := hw9.c0; have s2 := hw9.c1; have s3 := hw9.c2; go_simp; rfl), ?_⟩) | (refine wpLexS_pure0 rfl (fun _ _ => ?_); go_simp; try go_bits) | (refine wpLexS_read rfl (fun _ _ => ?_); go_simp; try go_bits) | (refine wpLexS_loud rfl (fun KL hKL => ?_))))
  have D1d := D1.step (Below.refl _ _).drew
  refine (clone_sec D1d.seen h.ok.seen h.ok.n1 h.ok.n6).mono ?_
  rintro e w2 ⟨g2, c2, j2, rfl, hc2, hg2, R2, hb2⟩
  (go_wp2_with (first | (refine wpLexS_nil ?_) | (refine wpLexS_pure rfl (fun _ _ => ?_); go_simp; refine ⟨_, fun w9 hw9 => (by have s1 := hw9.c0; have s2 := hw9.c1; have s3 := hw9.c2; go_simp; rfl), ?_⟩) | (refine wpLexS_pure0 rfl (fun _ _ => ?_); go_simp; try go_bits) | (refine wpLexS_read rfl (fun _ _ => ?_); go_simp; try go_bits) | (refine wpLexS_loud rfl (fun KL hKL => ?_))))
  have hgL1 := D1d.row.lt
  replace hS : DRow L.g _ _ _ _ _ w2 := RowIs.below hS hb2 hgL1
  have D2 := D1d.step hb2
  replace hb1 := hb1.drew.trans (hb2.mono hb1.drew.size)
  replace R1 := R1.drew.step hb2
  have hs2 := R2.lt
  clear D1 D1d hb2 hgL1
  refine hKL _ _ hS (fun _ => ?_)
  (go_wp2_with (first | (refine wpLexS_nil ?_) | (refine wpLexS_pure rfl (fun _ _ => ?_); go_simp; refine ⟨_, fun w9 hw9 => (by have s1 := hw9.c0; have s2 := hw9.c1; have s3 := hw9.c2; go_simp; rfl), ?_⟩) | (refine wpLexS_pure0 rfl (fun _ _ => ?_); go_simp; try go_bits) | (refine wpLexS_read rfl (fun _ _ => ?_); go_simp; try go_bits) | (refine wpLexS_loud rfl (fun KL hKL => ?_))))
  refine (clone_sec D2.sure h.ok.sure h.ok.n1 h.ok.n6).mono ?_
  rintro e w3 ⟨g3, c3, j3, rfl, hc3, hg3, R3, hb3⟩
  (go_wp2_with (first | (refine wpLexS_nil ?_) | (refine wpLexS_pure rfl (fun _ _ => ?_); go_simp; refine ⟨_, fun w9 hw9 => (by have s1 := hw9.c0; have s2 := hw9.c1; have s3 := hw9.c2; go_simp; rfl), ?_⟩) | (refine wpLexS_pure0 rfl (fun _ _ => ?_); go_simp; try go_bits) | (refine wpLexS_read rfl (fun _ _ => ?_); go_simp; try go_bits) | (refine wpLexS_loud rfl (fun KL hKL => ?_))))
  have hgL2 := D2.row.lt
  replace hS : DRow L.g _ _ _ _ _ w3 := RowIs.below hS hb3 hgL2
  have D3 := D2.step hb3
  replace hb1 := hb1.trans (hb3.mono hb1.size)
  replace R1 := R1.step hb3
  replace R2 := R2.step hb3
  have hs3 := R3.lt
  clear D2 hb3 hgL2
  refine hKL _ _ hS (fun _ => ?_)
  (go_wp2_with (first | (refine wpLexS_nil ?_) | (refine wpLexS_pure rfl (fun _ _ => ?_); go_simp; refine ⟨_, fun w9 hw9 => (by have s1 := hw9.c0; have s2 := hw9.c1; have s3 := hw9.c2; go_simp; rfl), ?_⟩) | (refine wpLexS_pure0 rfl (fun _ _ => ?_); go_simp; try go_bits) | (refine wpLexS_read rfl (fun _ _ => ?_); go_simp; try go_bits) | (refine wpLexS_loud rfl (fun KL hKL => ?_))))
  have hpd := D3.pend
  rw [hv] at hpd
  refine (clone_pend hpd hpl (fun p hp => (h.ok.pend p hp).2)).mono ?_
  rintro e w4 ⟨A4, c4, rfl, own4, hb4, hbl4⟩
  (go_wp2_with (first | (refine wpLexS_nil ?_) | (refine wpLexS_pure rfl (fun _ _ => ?_); go_simp; refine ⟨_, fun w9 hw9 => (by have s1 := hw9.c0; have s2 := hw9.c1; have s3 := hw9.c2; go_simp; rfl), ?_⟩) | (refine wpLexS_pure0 rfl (fun _ _ => ?_); go_simp; try go_bits) | (refine wpLexS_read rfl (fun _ _ => ?_); go_simp; try go_bits) | (refine wpLexS_loud rfl (fun KL hKL => ?_))))
  have hgL3 := D3.row.lt
  replace hS : DRow L.g _ _ _ _ _ w4 := RowIs.below hS hb4 hgL3
  replace hb1 := hb1.trans (hb4.mono hb1.size)
  replace R1 := R1.step hb4
  replace R2 := R2.step hb4
  replace R3 := R3.step hb4
  refine hKL _ _ hS (fun _ => ?_)
  rw [HVS.out] at R1
  obtain ⟨k0, k1, k2, -, -⟩ := R1.cells5
  have z0 := R1.fz 0
  have z1 := R1.fz 1
  have z2 := R1.fz 2
  have hne : L.g ≠ w.heap.size := by omega
  (go_wp2_with (first | (refine wpLexS_nil ?_) | (refine wpLexS_pure rfl (fun _ _ => ?_); go_simp; refine ⟨_, fun w9 hw9 => (by have s1 := hw9.c0; have s2 := hw9.c1; have s3 := hw9.c2; go_simp; rfl), ?_⟩) | (refine wpLexS_pure0 rfl (fun _ _ => ?_); go_simp; try go_bits) | (refine wpLexS_read rfl (fun _ _ => ?_); go_simp; try go_bits) | (refine wpLexS_loud rfl (fun KL hKL => ?_))))
  replace hS : DRow L.g _ _ _ _ _ _ := RowIs.put_ne hS (a := ⟨w.heap.size, 0, none⟩) hne (.slice (some ⟨g2, 0, none⟩) d.n c2)
  refine hKL _ _ hS (fun _ => ?_)
  (go_wp2_with (first | (refine wpLexS_nil ?_) | (refine wpLexS_pure rfl (fun _ _ => ?_); go_simp; refine ⟨_, fun w9 hw9 => (by have s1 := hw9.c0; have s2 := hw9.c1; have s3 := hw9.c2; go_simp; rfl), ?_⟩) | (refine wpLexS_pure0 rfl (fun _ _ => ?_); go_simp; try go_bits) | (refine wpLexS_read rfl (fun _ _ => ?_); go_simp; try go_bits) | (refine wpLexS_loud rfl (fun KL hKL => ?_))))
  replace hS : DRow L.g _ _ _ _ _ _ := RowIs.put_ne hS (a := ⟨w.heap.size, 1, none⟩) hne (.slice (some ⟨g3, 0, none⟩) d.n c3)
  refine hKL _ _ hS (fun _ => ?_)
  (go_wp2_with (first | (refine wpLexS_nil ?_) | (refine wpLexS_pure rfl (fun _ _ => ?_); go_simp; refine ⟨_, fun w9 hw9 => (by have s1 := hw9.c0; have s2 := hw9.c1; have s3 := hw9.c2; go_simp; rfl), ?_⟩) | (refine wpLexS_pure0 rfl (fun _ _ => ?_); go_simp; try go_bits) | (refine wpLexS_read rfl (fun _ _ => ?_); go_simp; try go_bits) | (refine wpLexS_loud rfl (fun KL hKL => ?_))))
  replace hS : DRow L.g _ _ _ _ _ _ := RowIs.put_ne hS (a := ⟨w.heap.size, 2, none⟩) hne (.slice A4 d.pend.length c4)
  refine hKL _ _ hS (fun _ => ?_)
  (go_wp2_with (first | (refine wpLexS_nil ?_) | (refine wpLexS_pure rfl (fun _ _ => ?_); go_simp; refine ⟨_, fun w9 hw9 => (by have s1 := hw9.c0; have s2 := hw9.c1; have s3 := hw9.c2; go_simp; rfl), ?_⟩) | (refine wpLexS_pure0 rfl (fun _ _ => ?_); go_simp; try go_bits) | (refine wpLexS_read rfl (fun _ _ => ?_); go_simp; try go_bits) | (refine wpLexS_loud rfl (fun KL hKL => ?_))))
  go_ret
  have a2 : w.heap.size < g2 := by have : w1.drew.heap.size ≤ g2 := hg2; have e : w1.drew.heap.size = w1.heap.size := rfl; omega
  have a3 : g2 < g3 := by omega
  have a4 : ∀ k, (Value.slice A4 d.pend.length c4).ownBlock = some k → g3 < k := fun k hk => by have := hbl4 k hk; omega
  refine ⟨⟨w.heap.size, g2, c2, j2, g3, c3, j3, .slice A4 d.pend.length c4⟩, rfl, ⟨?_, ((R2.put_ne (by simp; omega) _).put_ne (by simp; omega) _).put_ne (by simp; omega) _, ((R3.put_ne (by simp; omega) _).put_ne (by simp; omega) _).put_ne (by simp; omega) _, own4.keep fun k hk => ?_, h.ok, hc2, hc3, by simp; omega, by simp; omega, by simp; omega, fun k hk => by have := a4 k hk; simp; omega⟩, ?_, ?_⟩
  · have := ((R1.put 0 (.slice (some ⟨g2, 0, none⟩) d.n c2)).put 1 (.slice (some ⟨g3, 0, none⟩) d.n c3)).put 2 (.slice A4 d.pend.length c4)
    simpa using this
  · have := a4 k hk
    exact ((Below.heap_setCell _ _ _ _ (by simp; omega)).trans (Below.heap_setCell _ _ _ _ (by simp; omega))).trans (Below.heap_setCell _ _ _ _ (by simp; omega))
  · exact ((hb1.setCell (by simp) _).setCell (by simp) _).setCell (by simp) _
  · rintro k (hk | hk | hk | hk)
    · simp at hk; omega
    · simp at hk; omega
    · simp at hk; omega
    · have := a4 k hk; omega
end Go.Proofs.Ytbfloejpgjheiaa
