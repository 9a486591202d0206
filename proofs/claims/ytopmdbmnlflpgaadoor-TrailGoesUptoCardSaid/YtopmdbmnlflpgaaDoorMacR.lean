/- Layer 3, the document's: the keyed digest. -/
import Derived.Test.YtopmdbmnlflpgaaDoorMacP
import Derived.Test.YtopmdbmnlflpgaaDoorBytes
namespace Go.Proofs.YtopmdbmnlflpgaaDoor
open Go.RowKit
@[irreducible] def macB (k m : List UInt8) : List UInt8 := shaB (padK (keyB k) 0x5c ++ shaB (padK (keyB k) 0x36 ++ m))
theorem macB_def (k m : List UInt8) : macB k m = shaB (padK (keyB k) 0x5c ++ shaB (padK (keyB k) 0x36 ++ m)) := by unfold macB; rfl
theorem macB_length (k m : List UInt8) : (macB k m).length = 32 := by rw [macB_def, shaB_length]
theorem zeros_succ (z : Nat) : zeros z ++ [0] = zeros (z + 1) := by rw [zeros_def, zeros_def, List.replicate_succ']
theorem padK_take (k : List UInt8) (c : UInt8) (j : Nat) (h : k.length ≤ 64) (hj : j < 64) : (padK k c).take (j + 1) = (padK k c).take j ++ [at8 (k ++ zeros (64 - k.length)) j ^^^ c] := by
  rw [take_succ8 _ _ (by rw [padK_length k c h]; exact hj)]
  congr 2
  rw [padK_def, at8_mapx _ _ _ (by rw [List.length_append, zeros_length]; omega)]
/-- what a keyed digest's own slices need of a step that grows another one -/
theorem Own8.kept {T : TypeId} {w w' : World} {base : Nat} {v : Value} {l : List UInt8} {row : Option Nat} (h : Own8 T w base v l) (hg : w.grownBy w' row) (hne : v.ownBlock = none ∨ v.ownBlock ≠ row) : Own8 T w' base v l := World.ownsRow.kept h hg hne
/-- two own slices, apart -/
def Apart (u v : Value) : Prop := u.ownBlock = none ∨ v.ownBlock = none ∨ u.ownBlock ≠ v.ownBlock
theorem Apart.self {u v : Value} (h : Apart u v) : u.ownBlock = none ∨ u.ownBlock ≠ v.ownBlock := by
  rcases h with h | h | h
  · exact .inl h
  · cases hu : u.ownBlock with
    | none => exact .inl rfl
    | some k => exact .inr (by rw [h]; simp)
  · exact .inr h
theorem Apart.other {u v : Value} (h : Apart u v) : v.ownBlock = none ∨ v.ownBlock ≠ u.ownBlock := by
  rcases h with h | h | h
  · cases hu : v.ownBlock with
    | none => exact .inl rfl
    | some k => exact .inr (by rw [h]; simp)
  · exact .inl h
  · exact .inr (Ne.symm h)
theorem Own8.lt {T : TypeId} {w : World} {base : Nat} {v : Value} {l : List UInt8} (h : Own8 T w base v l) {k : Nat} (hk : v.ownBlock = some k) : k < w.heap.size := (World.ownsRow.lt h k hk).2
theorem Apart.left {T : TypeId} {w w' : World} {base : Nat} {u v u' : Value} {l : List UInt8} {g : Nat} (h : Apart u v) (hv : Own8 T w base v l) (hat : u.ownBlock = some g ∨ g = w'.heap.size) (hs : w.heap.size ≤ w'.heap.size := by simp) (hu : u'.ownBlock = some g := by rfl) : Apart u' v := by
  cases hvb : v.ownBlock with
  | none => exact .inr (.inl hvb)
  | some k =>
    refine .inr (.inr ?_)
    have hk := hv.lt hvb
    rw [hu, hvb]
    intro e
    injection e with e
    subst e
    rcases hat with hat | hat
    · rcases h with h | h | h
      · rw [hat] at h; cases h
      · rw [hvb] at h; cases h
      · exact h (by rw [hat, hvb])
    · omega
theorem Apart.right {T : TypeId} {w w' : World} {base : Nat} {u v v' : Value} {l : List UInt8} {g : Nat} (h : Apart u v) (hu : Own8 T w base u l) (hat : v.ownBlock = some g ∨ g = w'.heap.size) (hs : w.heap.size ≤ w'.heap.size := by simp) (hv : v'.ownBlock = some g := by rfl) : Apart u v' := by
  have h1 : Apart v u := by rcases h with h | h | h
                            · exact .inr (.inl h)
                            · exact .inl h
                            · exact .inr (.inr (Ne.symm h))
  have h2 := Apart.left h1 hu hat hs hv
  rcases h2 with h | h | h
  · exact .inr (.inl h)
  · exact .inl h
  · exact .inr (.inr (Ne.symm h))
theorem wpList_appendBs' {P : Program} {w : World} {t e : TypeId} {ops : Array Oper} {rest : List Oper} {o : Oper} {a : Act} {Q : Exit → Act → World → Prop} (ht : P.underlying t = some (.slice e)) (hi : (P.info? e).map (fun i => (i.zero, i.size, i.bytes)) = some (some (.int .u8 0), 1, 1))
    (hgd : o.guard = none) (s x : Operand) (ho : o.op = .call { callee := .builtin .append, args := #[s, x], argTypes := #[t, t] })
    (base : Nat) {v vx : Value} {l bs L : List UInt8} {N : Nat} (hs : a.eval s = v) (hown : Own8 e w base v l) (hx : a.eval x = vx) (hb : Bs w vx bs) (hL : l ++ bs = L) (hN : L.length = N)
    (hlen : N ≤ 140737488355328) (hbase : base ≤ w.heap.size)
    (h : ∀ A' c' w', Own8 e w' base (.slice A' N c') L → Below base w w' → w.grownBy w' v.ownBlock → wpList P ops Q rest (a.put o.dst (.slice A' N c')) w') : wpList P ops Q (o :: rest) a w := by
  obtain ⟨A, c, rfl, h1, h2, h3⟩ := hb
  subst hL; subst hN
  exact wpList_append8s ht hi hgd s x ho base _ v l hs hown A bs.length c bs hx rfl h3 (by rwa [List.length_append] at hlen) hbase fun A' c' w' g1 g2 => h A' c' w' g1 (below_append (Below.refl _ _) hown g2 (Nat.le_refl _) hbase) g2
theorem Upd.thenB {g : Nat} {a w w' : World} (h : Upd g a w) (hb : Below a.heap.size w w') : Upd g a w' :=
  ⟨hb.os.trans h.os, hb.tape.trans h.tape, hb.output.trans h.output, Nat.le_trans h.size hb.size, fun k hk hg => (hb.block k hk).trans (h.block k hk hg)⟩
theorem LogB.below {w w' : World} {r B : Nat} {N : Int} (h : LogB w r N) (hb : Below B w w') (hr : r < B) : LogB w' r N := by obtain ⟨n, h0, h1, h2⟩ := h; exact ⟨n, h0, h1, h2.below hb hr⟩
set_option maxRecDepth 100000 in
set_option maxHeartbeats 3200000 in
theorem refmac_any (r : Nat) (N : Int) (vk vb : Value) (key b : List UInt8) (w : World) (hm : LogB w r N) (hk : Bs w vk key) (hb : Bs w vb b) (hkl : key.length ≤ 1000000) (hbl : b.length ≤ 1000000) (hN : N ≤ 1000000) :
    Calls Tryd.prog 34 #[.pointer (some ⟨r, 0, none⟩), vk, vb] w (LSum r (N + 3) (macB key b) w) := by
  obtain ⟨K, hK⟩ : ∃ K, K = keyB key := ⟨_, rfl⟩
  obtain ⟨Z, hZ⟩ : ∃ Z, Z = K ++ zeros (64 - K.length) := ⟨_, rfl⟩
  obtain ⟨I, hI⟩ : ∃ I, I = padK K 0x36 := ⟨_, rfl⟩
  obtain ⟨O, hO⟩ : ∃ O, O = padK K 0x5c := ⟨_, rfl⟩
  obtain ⟨D, hD⟩ : ∃ D, D = shaB (I ++ b) := ⟨_, rfl⟩
  have hKl : K.length ≤ 64 := by rw [hK]; exact keyB_length key
  have hIl : I.length = 64 := by rw [hI, padK_length _ _ hKl]
  have hOl : O.length = 64 := by rw [hO, padK_length _ _ hKl]
  have hDl : D.length = 32 := by rw [hD, shaB_length]
  have HZL := Lib.hid (show Z.length = 64 by rw [hZ, List.length_append, zeros_length]; omega)
  have HIT : Hid (∀ j, j < 64 → I.take j ++ [at8 Z j ^^^ 0x36] = I.take (j + 1)) := Lib.hid fun j hj => by rw [hI, hZ, padK_take _ _ _ hKl hj]
  have HOT : Hid (∀ j, j < 64 → O.take j ++ [at8 Z j ^^^ 0x5c] = O.take (j + 1)) := Lib.hid fun j hj => by rw [hO, hZ, padK_take _ _ _ hKl hj]
  have hres : macB key b = shaB (O ++ D) := by rw [macB_def, hO, hD, hI, hK]
  have hFl := macB_length key b
  obtain ⟨F, hF⟩ : ∃ F, F = macB key b := ⟨_, rfl⟩
  rw [← hF] at hres hFl ⊢
  have HF := Lib.hid hres.symm
  have HD := Lib.hid hD.symm
  have HZ := Lib.hid hZ
  have HIL := Lib.hid hIl
  have HOL := Lib.hid hOl
  have HDL := Lib.hid hDl
  have hm0 := hm
  have hb0 := hb
  have hrl := hm.lt
  clear hF hres hD hZ hI hO hIl hOl
  obtain ⟨n, hn⟩ : ∃ n, key.length = n := ⟨_, rfl⟩
  have HN := Lib.hid hn
  have hk0 := hk
  obtain ⟨A, c, rfl, -, -, -⟩ := hk
  rw [hn] at hk0 hkl ⊢
  clear hb
  have HB : Below w.heap.size w ((w.alloc (.cells (u8s (zeros 32)) 33)).alloc (.cells #[] 5)) := (by repeat (first | with_reducible exact Below.refl _ _ | with_reducible assumption | refine Below.drew ?_ | refine below_drewN ?_ | refine Below.alloc ?_ (by first | omega | (simp; done) | (simp; omega)) _ | refine below_setRow ?_ (by omega) _ | refine Below.setCell ?_ (by first | omega | (simp; done) | (simp; omega)) _))
  have R6 : RowIs ((w.alloc (.cells (u8s (zeros 32)) 33)).alloc (.cells #[] 5)) w.heap.size (u8s (zeros 32)) := (RowIs.new _ _ _).alloc _
  have own0 := Own8.empty (T := 5) (g := w.heap.size + 1) (w.alloc (.cells (u8s (zeros 32)) 33)) (base := w.heap.size + 1) (by simp) (by simp)
  have hk1 := hk0.step HB
  by_cases h64 : 64 < key.length
  · have h64' : (64 : Int) < n := by omega
    have hKd : shaB key = K := by rw [hK, keyB_big key h64]
    have HKD := Lib.hid hKd
    have hK32 : K.length = 32 := by rw [← hKd, shaB_length]
    clear hK hKd hn h64
    go_enter Tryd.func34, Tryd.ntmps34
    go_wp2_with (at_builtin; refine wpList_appendBs Tryd.underlying27 Tryd.info8 rfl (.tmp 12) (.tmp 13) rfl (w.heap.size + 1) rfl own0 rfl hk1 (List.nil_append _) HN.out (by omega) (by simp) ?_; intro A1 c1 w1 own1 bel1; replace HB := HB.trans (bel1.mono (by omega)); replace R6 := R6.below bel1 (by omega); clear own0 hk1 bel1 own1)
    refine (lsum_any r N _ key w1 (hm.step HB) (hk0.step HB) (by rw [HN.out]; omega) (by omega)).mono ?_
    rintro e w2 ⟨rfl, hm2, hu2⟩
    rw [HKD.out]
    replace R6 := R6.upd hu2 (by omega)
    have huc := (Upd.of (g := r) HB).trans hu2
    have hs2 := R6.lt
    clear hm hk0 hu2 HB
    go_wp2_with fail
    refine (bytes_any K hK32 w2).mono ?_
    rintro e wc ⟨A3, c3, rfl, own3, hb3⟩
    have hown := own3.more (show w.heap.size + 1 ≤ w2.heap.size by omega)
    have hmc := hm2.step hb3
    replace R6 := R6.step hb3
    replace huc := huc.then hb3
    have hbc := hb0.upd huc hm0.no8
    have hsc : w.heap.size + 1 ≤ wc.heap.size := by have := hb3.size; omega
    clear hm2 own3 hb3 hs2
    rw [hK32] at hown ⊢
    go_wp2_with fail
    have HKZ : Hid (∀ z, (K ++ zeros z) ++ [0] = K ++ zeros (z + 1)) := Lib.hid fun z => by rw [List.append_assoc, zeros_succ]
    have HKL := Lib.hid hKl
    clear hKl
    go_loopw [7] (fun v wr => ∃ (z m : Nat) (A : Option Addr) (c : Nat), v = .slice A m c ∧ m = K.length + z ∧ m ≤ 64 ∧ Own8 5 wr (w.heap.size + 1) (.slice A m c) (K ++ zeros z) ∧ Below (w.heap.size + 1) wc wr) (fun v _ => 100 - lenOf' v)
    case atStart => exact ⟨0, _, _, _, rfl, by omega, by have := HKL.out; omega, by rw [show K ++ zeros 0 = K by simp [zeros_def]]; exact hown, Below.refl _ _⟩
    case round =>
      clear hown
      obtain ⟨z, m, A7, c7, rfl, hmz, hm64, hown, HBz⟩ := hrel
      by_cases hlt : m < 64
      · have hlt' : (m : Int) < 64 := by omega
        have HMZ := Lib.hid hmz
        have hszr := HBz.size
        have hq : Below wr.heap.size wr (wr.alloc (.cells #[.int .u8 0] 5)) := (by repeat (first | with_reducible exact Below.refl _ _ | with_reducible assumption | refine Below.drew ?_ | refine below_drewN ?_ | refine Below.alloc ?_ (by first | omega | (simp; done) | (simp; omega)) _ | refine below_setRow ?_ (by omega) _ | refine Below.setCell ?_ (by first | omega | (simp; done) | (simp; omega)) _))
        have hone : Bs (wr.alloc (.cells #[.int .u8 0] 5)) (.slice (some ⟨wr.heap.size, 0, none⟩) 1 1) [0] := Bs.one (i := 0) 0 (by go_simp) (by rw [n8_def]; rfl) (by simp)
        have own1 := hown.step hq
        have HLL := Lib.hid (show (K ++ zeros (z + 1)).length = m + 1 by rw [List.length_append, zeros_length]; omega)
        clear hmz
        go_wp2_with (at_builtin; refine wpList_appendBs Tryd.underlying27 Tryd.info8 rfl (.tmp 25) (.tmp 26) rfl (w.heap.size + 1) rfl own1 rfl hone (HKZ.out z) HLL.out (by omega) (by simp; omega) ?_; intro A8 c8 w8 own8 bel8)
        refine ⟨⟨z + 1, m + 1, _, _, rfl, by have := HMZ.out; omega, by omega, own8, (HBz.trans (hq.mono (by omega))).trans bel8⟩, by simp [lenOf']; omega⟩
      · have em : m = 64 := by omega
        subst em
        rw [show K ++ zeros z = Z by rw [HZ.out, show 64 - K.length = z by omega]] at hown
        have hszr := HBz.size
        replace hbc := hb0.upd (huc.thenB (HBz.mono (by omega))) hm0.no8
        replace R6 := R6.below HBz (by omega)
        replace hmc := hmc.below HBz (by omega)
        replace huc := huc.thenB (HBz.mono (by omega))
        have hsc2 : w.heap.size + 1 ≤ wr.heap.size := by omega
        obtain ⟨w7, rfl⟩ : ∃ w7, w7 = wr := ⟨_, rfl⟩
        have rdZ := hown.rd
        clear hmz HBz hszr hown hlt hsc
        go_wp2_with fail
        go_loopw [8, 9, 10] (fun u v i wr => ∃ j : Nat, j ≤ 64 ∧ i = .int .i64 j ∧ Own8 5 wr w7.heap.size u (I.take j) ∧ Own8 5 wr w7.heap.size v (O.take j) ∧ Apart u v ∧ Below w7.heap.size w7 wr) (fun _ _ i _ => 64 - (intOf i).toNat)
        case atStart => exact ⟨0, by omega, rfl, Own8.nil _ _ _, Own8.nil _ _ _, .inl rfl, Below.refl _ _⟩
        case round =>
          obtain ⟨j, hj, rfl, own8, own9, hap, HB7⟩ := hrel
          by_cases hj64 : j < 64
          · have hj0 : (0 : Int) ≤ j := by omega
            have hj1 : (j : Int) < 64 := by omega
            have hs7 := HB7.size
            obtain ⟨Az, cz, rfl, hcz⟩ : ∃ gz oz, A7 = some ⟨gz, oz, none⟩ ∧ w7.cell? ⟨gz, oz + j, none⟩ = some (.int .u8 (n8 (at8 Z j))) := c8_of rdZ j (by rw [HZL.out]; exact hj64)
            have hgz : Az < w7.heap.size := by
              obtain ⟨g', o', e, hb, _⟩ := rdZ (by rw [HZL.out]; omega)
              cases e; exact hb
            have hit := HIT.out j hj64
            have hot := HOT.out j hj64
            obtain ⟨x, hx⟩ : ∃ x, x = at8 Z j := ⟨_, rfl⟩
            rw [← hx] at hcz hit hot
            have HI1 := Lib.hid hit
            have HO1 := Lib.hid hot
            have hczr := (HB7.cell (p := ⟨Az, cz + j, none⟩) hgz).trans hcz
            have hgr : Az < wr.heap.size := by omega
            have HLI := Lib.hid (show (I.take j).length = j by rw [List.length_take, HIL.out]; omega)
            have HLO := Lib.hid (show (O.take j).length = j by rw [List.length_take, HOL.out]; omega)
            have l36 : (54 : Int) = n8 0x36 := by rw [n8_def]; rfl
            have l5c : (92 : Int) = n8 0x5c := by rw [n8_def]; rfl
            clear hx hit hot
            obtain ⟨A8, c8, rfl⟩ := own8.slice
            obtain ⟨A9, c9, rfl⟩ := own9.slice
            rw [HLI.out] at own8 hap ⊢
            rw [HLO.out] at own9 hap ⊢
            go_wp2_with (first
              | (at_builtin; refine wpList_append8 Tryd.underlying27 Tryd.info8 (by rfl) (.tmp 32) (.tmp 38) (by rfl) w7.heap.size _ (I.take j) (by rfl) (own8.alloc _) wr.heap.size (x ^^^ 0x36) (by rfl) (by go_simp) (by rw [HLI.out]; omega) (by simp; omega) ?_; rw [HLI.out, HI1.out]; intro g3 cap3 w3 own8' hg3 hat3 hlt3; have hB3 : Below w7.heap.size w7 w3 := below_append (HB7.alloc (by omega) _) (own8.alloc _) hg3 (Nat.le_refl _) (by simp; omega); have hcz3 := (hB3.cell (p := ⟨Az, cz + j, none⟩) hgz).trans hcz; have own9' := Own8.kept (own9.alloc _) hg3 hap.other; have hap' : Apart (.slice (some ⟨g3, 0, none⟩) (j + 1) cap3) (.slice A9 j c9) := Apart.left hap own9 hat3; have hs3 := hB3.size; have hgr3 : Az < w3.heap.size := (by omega))
              | (at_builtin; refine wpList_append8 Tryd.underlying27 Tryd.info8 (by rfl) (.tmp 40) (.tmp 46) (by rfl) w7.heap.size _ (O.take j) (by rfl) (own9'.alloc _) w3.heap.size (x ^^^ 0x5c) (by rfl) (by go_simp) (by rw [HLO.out]; omega) (by simp; omega) ?_; rw [HLO.out, HO1.out]; intro g4 cap4 w4 own9'' hg4 hat4 hlt4; have own8'' := Own8.kept (own8'.alloc _) hg4 hap'.self; have hB4 : Below w7.heap.size w7 w4 := below_append (hB3.alloc (by omega) _) (own9'.alloc _) hg4 (Nat.le_refl _) (by simp; omega); have hap'' : Apart (.slice (some ⟨g3, 0, none⟩) (j + 1) cap3) (.slice (some ⟨g4, 0, none⟩) (j + 1) cap4) := Apart.right hap' own8' hat4))
            refine ⟨⟨j + 1, by omega, by go_num, own8'', own9'', hap'', hB4⟩, by simp [intOf]; omega⟩
          · have ej : j = 64 := by omega
            subst ej
            rw [show ((64 : Nat) : Int) = 64 from rfl]
            rw [List.take_of_length_le (by rw [HIL.out]; omega)] at own8
            rw [List.take_of_length_le (by rw [HOL.out]; omega)] at own9
            obtain ⟨A8, c8, rfl⟩ := own8.slice
            obtain ⟨A9, c9, rfl⟩ := own9.slice
            rw [HIL.out] at own8 hap ⊢
            rw [HOL.out] at own9 hap ⊢
            replace hbc := hbc.step HB7
            replace hmc := hmc.step HB7
            replace R6 := R6.step HB7
            replace huc := huc.then HB7
            have hs7 := HB7.size
            have HIB := Lib.hid (show (I ++ b).length = 64 + b.length by rw [List.length_append, HIL.out])
            have HOD := Lib.hid (show (O ++ D).length = 96 by rw [List.length_append, HOL.out, HDL.out])
            obtain ⟨w8, rfl⟩ : ∃ w8, w8 = wr := ⟨_, rfl⟩
            have hr8 := R6.lt
            clear HB7 hj rdZ
            go_wp2_with (at_builtin; refine wpList_appendBs' Tryd.underlying27 Tryd.info8 rfl (.tmp 49) (.tmp 50) rfl w7.heap.size rfl own8 rfl hbc rfl HIB.out (by omega) (by omega) ?_; intro A1' c1' w9 own1' bel1' grn; replace own9 := own9.kept grn hap.other; replace R6 := R6.below bel1' (by omega); replace hmc := hmc.below bel1' (by omega); replace huc := huc.thenB (bel1'.mono (by omega)); have hs9 := bel1'.size; clear own8 hbc bel1' grn hap)
            refine (lsum_any r (N + 1) _ (I ++ b) w9 hmc (own1'.bs (by rw [HIB.out]; omega)) (by rw [HIB.out]; omega) (by omega)).mono ?_
            rintro e w10 ⟨rfl, hm10, hu10⟩
            rw [HD.out]
            replace own9 := own9.keep (w' := w10) (fun k hk hk' => hu10.block k hk' (by omega))
            replace R6 := R6.upd hu10 (by omega)
            replace huc := huc.trans hu10
            have hs10 := hu10.size
            clear hmc hu10 own1'
            go_wp2_with fail
            refine (bytes_any D HDL.out _).mono ?_
            intro e w11 h11
            obtain ⟨v11, rfl, hv11, hb11⟩ := OwnRes.bs h11 (by rw [HDL.out]; omega)
            replace hb11 : Below w10.heap.size w10 w11 := Below.pred (w1 := w10) (by repeat (first | with_reducible exact Below.refl _ _ | with_reducible assumption | refine Below.drew ?_ | refine below_drewN ?_ | refine Below.alloc ?_ (by first | omega | (simp; done) | (simp; omega)) _ | refine below_setRow ?_ (by omega) _ | refine Below.setCell ?_ (by first | omega | (simp; done) | (simp; omega)) _)) hb11
            replace own9 := own9.step hb11; replace R6 := R6.step hb11; replace hm10 := hm10.step hb11
            replace huc := huc.then hb11
            have hs11 := hb11.size
            clear h11 hb11
            go_wp2_with (at_builtin; refine wpList_appendBs Tryd.underlying27 Tryd.info8 rfl (.tmp 54) (.tmp 56) rfl w7.heap.size rfl own9 rfl hv11 rfl HOD.out (by omega) (by omega) ?_; intro A12 c12 w12 own12 bel12; replace R6 := R6.below bel12 (by omega); replace hm10 := hm10.below bel12 (by omega); replace huc := huc.thenB (bel12.mono (by omega)); clear own9 hv11 bel12)
            refine (lsum_any r (N + 1 + 1) _ (O ++ D) w12 hm10 (own12.bs (by rw [HOD.out]; omega)) (by rw [HOD.out]; omega) (by omega)).mono ?_
            rintro e w13 ⟨rfl, hm13, hu13⟩
            rw [HF.out]
            replace R6 := R6.upd hu13 (by omega)
            replace huc := huc.trans hu13
            clear hm10 hu13 own12
            have R6h := R6.has; have R6r := R6.row; have R6l := R6.lt
            go_wp2_with fail
            refine bodyPost_retRow 6 _ w.heap.size 32 rfl rfl (by omega) (by kernel_rfl) (by kernel_rfl) ?_ rfl ?_
            · go_simp
            · go_simp
              obtain ⟨n, h0, h1, h2⟩ := hm13
              exact ⟨rfl, ⟨n, h0, by omega, h2.set_ne (by omega) _⟩, huc.setRow (Nat.le_refl _) _⟩
  · have h64' : ¬ (64 : Int) < n := by omega
    have hKd : key = K := by rw [hK, keyB_small key (by omega)]
    subst hKd
    clear hK h64
    go_enter Tryd.func34, Tryd.ntmps34
    go_wp2_with (at_builtin; refine wpList_appendBs Tryd.underlying27 Tryd.info8 rfl (.tmp 12) (.tmp 13) rfl (w.heap.size + 1) rfl own0 rfl hk1 (List.nil_append _) HN.out (by omega) (by simp) ?_; intro A1 c1 wc hown bel1; replace HB := HB.trans (bel1.mono (by omega)); replace R6 := R6.below bel1 (by omega); clear own0 hk1 bel1)
    have huc := Upd.of (g := r) HB
    have hmc := (hm.step HB).mono (show N ≤ N + 1 by omega)
    have hbc := hb0.step HB
    have hsc : w.heap.size + 1 ≤ wc.heap.size := R6.lt
    clear hm hk0 HB
    have HKZ : Hid (∀ z, (key ++ zeros z) ++ [0] = key ++ zeros (z + 1)) := Lib.hid fun z => by rw [List.append_assoc, zeros_succ]
    have HKL := Lib.hid hKl
    clear hKl
    go_loopw [7] (fun v wr => ∃ (z m : Nat) (A : Option Addr) (c : Nat), v = .slice A m c ∧ m = key.length + z ∧ m ≤ 64 ∧ Own8 5 wr (w.heap.size + 1) (.slice A m c) (key ++ zeros z) ∧ Below (w.heap.size + 1) wc wr) (fun v _ => 100 - lenOf' v)
    case atStart => exact ⟨0, _, _, _, rfl, by first | rfl | omega, by have := HKL.out; omega, by rw [show key ++ zeros 0 = key by simp [zeros_def]]; exact hown, Below.refl _ _⟩
    case round =>
      clear hown
      obtain ⟨z, m, A7, c7, rfl, hmz, hm64, hown, HBz⟩ := hrel
      by_cases hlt : m < 64
      · have hlt' : (m : Int) < 64 := by omega
        have HMZ := Lib.hid hmz
        have hszr := HBz.size
        have hq : Below wr.heap.size wr (wr.alloc (.cells #[.int .u8 0] 5)) := (by repeat (first | with_reducible exact Below.refl _ _ | with_reducible assumption | refine Below.drew ?_ | refine below_drewN ?_ | refine Below.alloc ?_ (by first | omega | (simp; done) | (simp; omega)) _ | refine below_setRow ?_ (by omega) _ | refine Below.setCell ?_ (by first | omega | (simp; done) | (simp; omega)) _))
        have hone : Bs (wr.alloc (.cells #[.int .u8 0] 5)) (.slice (some ⟨wr.heap.size, 0, none⟩) 1 1) [0] := Bs.one (i := 0) 0 (by go_simp) (by rw [n8_def]; rfl) (by simp)
        have own1 := hown.step hq
        have HLL := Lib.hid (show (key ++ zeros (z + 1)).length = m + 1 by rw [List.length_append, zeros_length]; omega)
        clear hmz
        go_wp2_with (at_builtin; refine wpList_appendBs Tryd.underlying27 Tryd.info8 rfl (.tmp 25) (.tmp 26) rfl (w.heap.size + 1) rfl own1 rfl hone (HKZ.out z) HLL.out (by omega) (by simp; omega) ?_; intro A8 c8 w8 own8 bel8)
        refine ⟨⟨z + 1, m + 1, _, _, rfl, by have := HMZ.out; omega, by omega, own8, (HBz.trans (hq.mono (by omega))).trans bel8⟩, by simp [lenOf']; omega⟩
      · have em : m = 64 := by omega
        subst em
        rw [show key ++ zeros z = Z by rw [HZ.out, show 64 - key.length = z by omega]] at hown
        have hszr := HBz.size
        replace hbc := hb0.upd (huc.thenB (HBz.mono (by omega))) hm0.no8
        replace R6 := R6.below HBz (by omega)
        replace hmc := hmc.below HBz (by omega)
        replace huc := huc.thenB (HBz.mono (by omega))
        have hsc2 : w.heap.size + 1 ≤ wr.heap.size := by omega
        obtain ⟨w7, rfl⟩ : ∃ w7, w7 = wr := ⟨_, rfl⟩
        have rdZ := hown.rd
        clear hmz HBz hszr hown hlt hsc
        go_wp2_with fail
        go_loopw [8, 9, 10] (fun u v i wr => ∃ j : Nat, j ≤ 64 ∧ i = .int .i64 j ∧ Own8 5 wr w7.heap.size u (I.take j) ∧ Own8 5 wr w7.heap.size v (O.take j) ∧ Apart u v ∧ Below w7.heap.size w7 wr) (fun _ _ i _ => 64 - (intOf i).toNat)
        case atStart => exact ⟨0, by omega, rfl, Own8.nil _ _ _, Own8.nil _ _ _, .inl rfl, Below.refl _ _⟩
        case round =>
          obtain ⟨j, hj, rfl, own8, own9, hap, HB7⟩ := hrel
          by_cases hj64 : j < 64
          · have hj0 : (0 : Int) ≤ j := by omega
            have hj1 : (j : Int) < 64 := by omega
            have hs7 := HB7.size
            obtain ⟨Az, cz, rfl, hcz⟩ : ∃ gz oz, A7 = some ⟨gz, oz, none⟩ ∧ w7.cell? ⟨gz, oz + j, none⟩ = some (.int .u8 (n8 (at8 Z j))) := c8_of rdZ j (by rw [HZL.out]; exact hj64)
            have hgz : Az < w7.heap.size := by
              obtain ⟨g', o', e, hb, _⟩ := rdZ (by rw [HZL.out]; omega)
              cases e; exact hb
            have hit := HIT.out j hj64
            have hot := HOT.out j hj64
            obtain ⟨x, hx⟩ : ∃ x, x = at8 Z j := ⟨_, rfl⟩
            rw [← hx] at hcz hit hot
            have HI1 := Lib.hid hit
            have HO1 := Lib.hid hot
            have hczr := (HB7.cell (p := ⟨Az, cz + j, none⟩) hgz).trans hcz
            have hgr : Az < wr.heap.size := by omega
            have HLI := Lib.hid (show (I.take j).length = j by rw [List.length_take, HIL.out]; omega)
            have HLO := Lib.hid (show (O.take j).length = j by rw [List.length_take, HOL.out]; omega)
            have l36 : (54 : Int) = n8 0x36 := by rw [n8_def]; rfl
            have l5c : (92 : Int) = n8 0x5c := by rw [n8_def]; rfl
            clear hx hit hot
            obtain ⟨A8, c8, rfl⟩ := own8.slice
            obtain ⟨A9, c9, rfl⟩ := own9.slice
            rw [HLI.out] at own8 hap ⊢
            rw [HLO.out] at own9 hap ⊢
            go_wp2_with (first
              | (at_builtin; refine wpList_append8 Tryd.underlying27 Tryd.info8 (by rfl) (.tmp 32) (.tmp 38) (by rfl) w7.heap.size _ (I.take j) (by rfl) (own8.alloc _) wr.heap.size (x ^^^ 0x36) (by rfl) (by go_simp) (by rw [HLI.out]; omega) (by simp; omega) ?_; rw [HLI.out, HI1.out]; intro g3 cap3 w3 own8' hg3 hat3 hlt3; have hB3 : Below w7.heap.size w7 w3 := below_append (HB7.alloc (by omega) _) (own8.alloc _) hg3 (Nat.le_refl _) (by simp; omega); have hcz3 := (hB3.cell (p := ⟨Az, cz + j, none⟩) hgz).trans hcz; have own9' := Own8.kept (own9.alloc _) hg3 hap.other; have hap' : Apart (.slice (some ⟨g3, 0, none⟩) (j + 1) cap3) (.slice A9 j c9) := Apart.left hap own9 hat3; have hs3 := hB3.size; have hgr3 : Az < w3.heap.size := (by omega))
              | (at_builtin; refine wpList_append8 Tryd.underlying27 Tryd.info8 (by rfl) (.tmp 40) (.tmp 46) (by rfl) w7.heap.size _ (O.take j) (by rfl) (own9'.alloc _) w3.heap.size (x ^^^ 0x5c) (by rfl) (by go_simp) (by rw [HLO.out]; omega) (by simp; omega) ?_; rw [HLO.out, HO1.out]; intro g4 cap4 w4 own9'' hg4 hat4 hlt4; have own8'' := Own8.kept (own8'.alloc _) hg4 hap'.self; have hB4 : Below w7.heap.size w7 w4 := below_append (hB3.alloc (by omega) _) (own9'.alloc _) hg4 (Nat.le_refl _) (by simp; omega); have hap'' : Apart (.slice (some ⟨g3, 0, none⟩) (j + 1) cap3) (.slice (some ⟨g4, 0, none⟩) (j + 1) cap4) := Apart.right hap' own8' hat4))
            refine ⟨⟨j + 1, by omega, by go_num, own8'', own9'', hap'', hB4⟩, by simp [intOf]; omega⟩
          · have ej : j = 64 := by omega
            subst ej
            rw [show ((64 : Nat) : Int) = 64 from rfl]
            rw [List.take_of_length_le (by rw [HIL.out]; omega)] at own8
            rw [List.take_of_length_le (by rw [HOL.out]; omega)] at own9
            obtain ⟨A8, c8, rfl⟩ := own8.slice
            obtain ⟨A9, c9, rfl⟩ := own9.slice
            rw [HIL.out] at own8 hap ⊢
            rw [HOL.out] at own9 hap ⊢
            replace hbc := hbc.step HB7
            replace hmc := hmc.step HB7
            replace R6 := R6.step HB7
            replace huc := huc.then HB7
            have hs7 := HB7.size
            have HIB := Lib.hid (show (I ++ b).length = 64 + b.length by rw [List.length_append, HIL.out])
            have HOD := Lib.hid (show (O ++ D).length = 96 by rw [List.length_append, HOL.out, HDL.out])
            obtain ⟨w8, rfl⟩ : ∃ w8, w8 = wr := ⟨_, rfl⟩
            have hr8 := R6.lt
            clear HB7 hj rdZ
            go_wp2_with (at_builtin; refine wpList_appendBs' Tryd.underlying27 Tryd.info8 rfl (.tmp 49) (.tmp 50) rfl w7.heap.size rfl own8 rfl hbc rfl HIB.out (by omega) (by omega) ?_; intro A1' c1' w9 own1' bel1' grn; replace own9 := own9.kept grn hap.other; replace R6 := R6.below bel1' (by omega); replace hmc := hmc.below bel1' (by omega); replace huc := huc.thenB (bel1'.mono (by omega)); have hs9 := bel1'.size; clear own8 hbc bel1' grn hap)
            refine (lsum_any r (N + 1) _ (I ++ b) w9 hmc (own1'.bs (by rw [HIB.out]; omega)) (by rw [HIB.out]; omega) (by omega)).mono ?_
            rintro e w10 ⟨rfl, hm10, hu10⟩
            rw [HD.out]
            replace own9 := own9.keep (w' := w10) (fun k hk hk' => hu10.block k hk' (by omega))
            replace R6 := R6.upd hu10 (by omega)
            replace huc := huc.trans hu10
            have hs10 := hu10.size
            clear hmc hu10 own1'
            go_wp2_with fail
            refine (bytes_any D HDL.out _).mono ?_
            intro e w11 h11
            obtain ⟨v11, rfl, hv11, hb11⟩ := OwnRes.bs h11 (by rw [HDL.out]; omega)
            replace hb11 : Below w10.heap.size w10 w11 := Below.pred (w1 := w10) (by repeat (first | with_reducible exact Below.refl _ _ | with_reducible assumption | refine Below.drew ?_ | refine below_drewN ?_ | refine Below.alloc ?_ (by first | omega | (simp; done) | (simp; omega)) _ | refine below_setRow ?_ (by omega) _ | refine Below.setCell ?_ (by first | omega | (simp; done) | (simp; omega)) _)) hb11
            replace own9 := own9.step hb11; replace R6 := R6.step hb11; replace hm10 := hm10.step hb11
            replace huc := huc.then hb11
            have hs11 := hb11.size
            clear h11 hb11
            go_wp2_with (at_builtin; refine wpList_appendBs Tryd.underlying27 Tryd.info8 rfl (.tmp 54) (.tmp 56) rfl w7.heap.size rfl own9 rfl hv11 rfl HOD.out (by omega) (by omega) ?_; intro A12 c12 w12 own12 bel12; replace R6 := R6.below bel12 (by omega); replace hm10 := hm10.below bel12 (by omega); replace huc := huc.thenB (bel12.mono (by omega)); clear own9 hv11 bel12)
            refine (lsum_any r (N + 1 + 1) _ (O ++ D) w12 hm10 (own12.bs (by rw [HOD.out]; omega)) (by rw [HOD.out]; omega) (by omega)).mono ?_
            rintro e w13 ⟨rfl, hm13, hu13⟩
            rw [HF.out]
            replace R6 := R6.upd hu13 (by omega)
            replace huc := huc.trans hu13
            clear hm10 hu13 own12
            have R6h := R6.has; have R6r := R6.row; have R6l := R6.lt
            go_wp2_with fail
            refine bodyPost_retRow 6 _ w.heap.size 32 rfl rfl (by omega) (by kernel_rfl) (by kernel_rfl) ?_ rfl ?_
            · go_simp
            · go_simp
              obtain ⟨n, h0, h1, h2⟩ := hm13
              exact ⟨rfl, ⟨n, h0, by omega, h2.set_ne (by omega) _⟩, huc.setRow (Nat.le_refl _) _⟩
end Go.Proofs.YtopmdbmnlflpgaaDoor
