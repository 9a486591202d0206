/- Layer 3, the document's: what a key is made by, and a key made of a key. -/
import Derived.Test.YtopmdbmnlflpgaaDoorDer
namespace Go.Proofs.YtopmdbmnlflpgaaDoor
open Go.RowKit
theorem wpList_appendStr {P : Program} {w : World} {t u e : TypeId} {ops : Array Oper} {rest : List Oper} {o : Oper} {a : Act} {Q : Exit → Act → World → Prop} (ht : P.underlying t = some (.slice e)) (hu : P.underlying u = some .string) (hi : (P.info? e).map (fun i => (i.zero, i.size, i.bytes)) = some (some (.int .u8 0), 1, 1))
    (hgd : o.guard = none) (s x : Operand) (ho : o.op = .call { callee := .builtin .append, args := #[s, x], argTypes := #[t, u] })
    (base : Nat) {v : Value} {l bs L : List UInt8} {S : ByteArray} {N : Nat} (hs : a.eval s = v) (hown : Own8 e w base v l) (hx : a.eval x = .string S) (hS : S = ⟨bs.toArray⟩) (hL : l ++ bs = L) (hN : L.length = N)
    (hlen : N ≤ 140737488355328) (hbase : base ≤ w.heap.size)
    (h : ∀ A' c' w', Own8 e w' base (.slice A' N c') L → Below base w w' → wpList P ops Q rest (a.put o.dst (.slice A' N c')) w') : wpList P ops Q (o :: rest) a w := by
  subst hL; subst hN; subst hS
  obtain ⟨i, hi1, hz, hs1, hb1⟩ := info_parts hi
  have hsz : (⟨bs.toArray⟩ : ByteArray).size = bs.length := by simp [ByteArray.size]
  have hsc : Lib.strCells ⟨bs.toArray⟩ = u8v bs := by
    rw [u8v_def]; simp [Lib.strCells, n8_def]
  rw [List.length_append] at hlen
  refine Lib.wpList_append_own_string (P := P) (w := w) hgd s x t u ho base e i ht hu hi1 hz hs1 hb1 v l.length (u8v l) hs hown ⟨bs.toArray⟩ hx (by rw [hsz]; simp only [maxLen]; omega) (by rw [hsz]; omega) hbase fun v' w' h1 h2 _ => ?_
  have h3 : Own8 e w' base v' (l ++ bs) := by
    unfold Own8
    rw [List.length_append, ← u8v_append]
    rw [hsz, hsc] at h1
    exact h1
  obtain ⟨A', c', rfl⟩ := h3.slice
  exact h A' c' w' h3 (below_append (Below.refl _ _) hown h2 (Nat.le_refl _) hbase)
set_option maxRecDepth 100000 in
set_option maxHeartbeats 3200000 in
theorem refinfo_any (s : List UInt8) (vl : Value) (ls : List (List UInt8)) (w : World) (hr : BsL w vl ls) (hs : s.length ≤ 300) (hls : ls.length ≤ 10) (hle : ∀ k, k < ls.length → (nthL ls k).length ≤ 1000) :
    Calls Tryd.prog 88 #[.string ⟨s.toArray⟩, vl] w (OwnRes 5 w (infoB s ls)) := by
  have hilen : ∀ k, k ≤ ls.length → (infoK s ls k).length ≤ 20000 := fun k hk => by
    have := infoK_le s ls 1000 hle k hk
    have : k * (4 + 1000) ≤ 10 * 1004 := Nat.mul_le_mul (by omega) (Nat.le_refl _)
    omega
  have HIL := Lib.hid hilen
  have HLE := Lib.hid hle
  obtain ⟨t, ht⟩ : ∃ t, t = s.take 255 := ⟨_, rfl⟩
  obtain ⟨n, hn⟩ : ∃ n, n = t.length := ⟨_, rfl⟩
  have hn5 : n ≤ 255 := by rw [hn, ht, List.length_take]; omega
  obtain ⟨S, hS⟩ : ∃ S : ByteArray, S = ⟨s.toArray⟩ := ⟨_, rfl⟩
  rw [← hS]
  obtain ⟨T, hT⟩ : ∃ T : ByteArray, T = ⟨t.toArray⟩ := ⟨_, rfl⟩
  have hSz : S.size = s.length := by rw [hS]; simp [ByteArray.size]
  have hTz : T.size = n := by rw [hT, hn]; simp [ByteArray.size]
  have hcase : (255 < s.length ∧ S.extract 0 255 = T) ∨ (s.length ≤ 255 ∧ S = T) := by
    rcases Nat.lt_or_ge 255 s.length with h | h
    · refine .inl ⟨h, ?_⟩
      rw [hS, hT, ht]
      apply ByteArray.ext
      simp
    · refine .inr ⟨h, ?_⟩
      rw [hS, hT, ht, List.take_of_length_le h]
  obtain ⟨m, hm'⟩ : ∃ m, m = s.length := ⟨_, rfl⟩
  rw [← hm'] at hSz hcase hs
  obtain ⟨bt, hbt⟩ : ∃ bt, bt = UInt8.ofNat n := ⟨_, rfl⟩
  have hcv : (n : Int) = n8 bt := by rw [hbt, n8_def, UInt8.toNat_ofNat']; omega
  have hI0 : [bt] ++ t = infoK s ls 0 := by rw [infoK, ← ht, ← hn, hbt]; rfl
  have hq0 : Below w.heap.size w (w.alloc (.cells #[.int .u8 (n : Int)] 5)) := (by repeat (first | with_reducible exact Below.refl _ _ | with_reducible assumption | refine Below.drew ?_ | refine below_drewN ?_ | refine Below.alloc ?_ (by first | omega | (simp; done) | (simp; omega)) _ | refine below_setRow ?_ (by omega) _ | refine Below.setCell ?_ (by first | omega | (simp; done) | (simp; omega)) _))
  have own0 : Own8 5 (w.alloc (.cells #[.int .u8 (n : Int)] 5)) w.heap.size (.slice (some ⟨w.heap.size, 0, none⟩) 1 1) [bt] := by
    rw [hcv]; exact Own8.lit1 w bt rfl (Nat.le_refl _)
  have HI0 := Lib.hid hI0
  have HI0l := Lib.hid (show (infoK s ls 0).length = n + 1 by rw [← hI0, hn]; simp [Nat.add_comm])
  have HT := Lib.hid hT
  obtain ⟨Al, cl, rfl, hc, hl140, hrr⟩ := id hr
  have HRR := Lib.hid hr
  obtain ⟨ln, hln⟩ : ∃ ln, ln = ls.length := ⟨_, rfl⟩
  have HLN := Lib.hid hln
  rw [← hln] at hls hl140 hc ⊢
  clear hbt hI0 hn hm' hcv hilen hle hS hT ht hln hrr hr
  rcases hcase with ⟨hc1, hc2⟩ | ⟨hc1, rfl⟩
  all_goals (
    first | (have hmn := hSz.symm.trans hTz; subst hmn; clear hTz) | skip
    have hd1 := Int.ofNat_le.2 hc1
    go_enter Tryd.func88, Tryd.ntmps88
    go_wp2_with (at_builtin; refine wpList_appendStr Tryd.underlying27 Tryd.underlying9 Tryd.info8 rfl (.tmp 15) (.tmp 16) rfl w.heap.size rfl own0 rfl HT.out HI0.out HI0l.out (by omega) (by simp) ?_; intro A1 c1 w1 own1 bel1; have hB := hq0.trans bel1)
    clear own0 hq0 bel1
    have hbz := hB.size
    go_loopw [5, 6] (fun v i wr => ∃ k : Nat, i = .int .i64 k ∧ k ≤ ln ∧ Own8 5 wr w.heap.size v (infoK s ls k) ∧ Below w.heap.size w wr) (fun _ i _ => ln - (intOf i).toNat)
    case atStart => exact ⟨0, rfl, by omega, own1, hB⟩
    case round =>
      clear own1 hB hbz
      obtain ⟨k, rfl, hk, own, hb⟩ := hrel
      have hbz := hb.size
      by_cases hlt : k < ln
      · have hlt' : k < ls.length := by rw [← HLN.out]; exact hlt
        obtain ⟨A5, c5, e5, -, -, hrd0⟩ := HRR.out
        obtain ⟨bl, ol, rfl, hrd⟩ := hrd0 (by omega)
        obtain ⟨rfl, -, rfl⟩ : Al = some ⟨bl, ol, none⟩ ∧ ln = ls.length ∧ cl = c5 := by injection e5 with q1 q2 q3; exact ⟨q1, HLN.out, q3⟩
        obtain ⟨vb, hcell0, hbs0⟩ := hrd.2 k hlt'
        have hbl := hrd.1
        obtain ⟨Ab, cb, rfl, -, -, -⟩ := id hbs0
        obtain ⟨it, hit⟩ : ∃ it, it = nthL ls k := ⟨_, rfl⟩
        obtain ⟨m', hmm⟩ : ∃ m', m' = it.length := ⟨_, rfl⟩
        have hm1 : m' ≤ 1000 := by rw [hmm, hit]; exact HLE.out k hlt'
        have hinf : infoK s ls (k + 1) = infoK s ls k ++ (lowB (UInt64.ofNat m') 4).reverse ++ it := by rw [infoK, hmm, hit, List.append_assoc]
        have hil := HIL.out (k + 1) (by omega)
        have hHl : (lowB (UInt64.ofNat m') 4).reverse.length = 4 := by rw [List.length_reverse, lowB_length]
        rw [← hit, ← hmm] at hcell0 hbs0
        have hk0 : (0 : Int) ≤ (k : Int) := by omega
        have hk1 : (k : Int) < ls.length := by omega
        obtain ⟨P0, hP0⟩ : ∃ p, p = infoK s ls k := ⟨_, rfl⟩
        obtain ⟨P1, hP1⟩ : ∃ p, p = infoK s ls (k + 1) := ⟨_, rfl⟩
        obtain ⟨q, hq⟩ : ∃ q, q = P0.length := ⟨_, rfl⟩
        rw [← hP0] at own hinf
        rw [← hP1] at hinf hil
        have hcell := (hb.cell (p := ⟨bl, ol + k, none⟩) hbl).trans hcell0
        obtain ⟨H, hH⟩ : ∃ H, H = (lowB (UInt64.ofNat m') 4).reverse := ⟨_, rfl⟩
        rw [← hH] at hinf hHl
        have HH := Lib.hid hH
        have hl1 : (P0 ++ H).length = q + 4 := by rw [List.length_append, hHl, ← hq]
        have hl2 : P1.length = q + 4 + m' := by rw [hinf, List.length_append, hl1, hmm]
        have HL1 := Lib.hid hl1; have HL2 := Lib.hid hl2; have HP1 := Lib.hid hP1; have HINF := Lib.hid hinf.symm; have HQ := Lib.hid hq
        rw [hl2] at hil
        obtain ⟨Av, cv, rfl⟩ := own.slice
        rw [← hq] at own ⊢
        clear hit hmm hinf e5 hrd hrd0 hP0 hP1 hq hH hHl hl1 hl2
        have hh := refHigh_bs (UInt64.ofNat m') 4 (by omega) 4 rfl wr
        rw [show n64 (UInt64.ofNat m') = (m' : Int) by rw [n64_def, UInt64.toNat_ofNat']; omega, ← HH.out] at hh
        go_wp2_with fail
        refine hh.mono ?_
        rintro e w4 ⟨v4, rfl, hv4, hb4⟩
        clear hh
        have hb04 := hb.trans (hb4.mono hbz)
        have own4 := own.step hb4
        have hs4 := hb04.size
        clear hb4 own hb hcell
        go_wp2_with (at_builtin; first
          | (refine wpList_appendBs Tryd.underlying27 Tryd.info8 rfl (.tmp 24) (.tmp 31) rfl w.heap.size rfl own4 rfl hv4 rfl HL1.out (by omega) (by omega) ?_; intro A5 c5 w5 own5 bel5; have hb5 := hb04.trans bel5; have hs5 := hb5.size; have hcell5 := (hb5.cell (p := ⟨bl, ol + k, none⟩) hbl).trans hcell0; have hbs5 := hbs0.step hb5; clear own4 hv4 bel5 hb04)
          | (refine wpList_appendBs Tryd.underlying27 Tryd.info8 rfl (.tmp 33) (.tmp 37) rfl w.heap.size rfl own5 rfl hbs5 HINF.out HL2.out (by omega) (by omega) ?_; intro A6 c6 w6 own6 bel6; have hb6 := hb5.trans bel6; clear own5 hbs5 bel6 hb5))
        rw [HP1.out] at own6
        exact ⟨⟨k + 1, by go_num, by omega, own6, hb6⟩, by simp [intOf]; omega⟩
      · have ek : k = ln := by omega
        subst ek
        rw [HLN.out, ← infoB_def] at own
        go_wp2_with fail
        go_ret
        exact OwnRes.mk own hb)
theorem apart_new {T : TypeId} {w w3 : World} {b0 B : Nat} {u v : Value} {l m : List UInt8} (hu : Own8 T w b0 u l) (hw : w.heap.size ≤ B) (hv : Own8 T w3 B v m) : Apart u v := by
  cases hub : u.ownBlock with
  | none => exact .inl hub
  | some k =>
    cases hvb : v.ownBlock with
    | none => exact .inr (.inl hvb)
    | some j =>
      refine .inr (.inr ?_)
      have h1 := hu.lt hub
      have h2 := (World.ownsRow.lt hv j hvb).1
      rw [hub, hvb]
      intro e
      injection e with e
      omega
section
attribute [local go_sem ↓] kloadX
attribute [local go_sem] kload0
set_option maxRecDepth 100000 in
set_option maxHeartbeats 3200000 in
theorem refderive_any (r : Nat) (N : Int) (key s : List UInt8) (hkey : key.length = 32) (vl : Value) (ls : List (List UInt8)) (w : World) (hm : LogB w r N) (hr : BsL w vl ls) (hs : s.length ≤ 300) (hls : ls.length ≤ 10) (hle : ∀ k, k < ls.length → (nthL ls k).length ≤ 1000) (hN : N ≤ 900000) :
    Calls Tryd.prog 58 #[.pointer (some ⟨r, 0, none⟩), .agg (u8s key), .string ⟨s.toArray⟩, vl] w (LSum r (N + 3) (derB key s ls) w) := by
  obtain ⟨F, hF⟩ : ∃ F, F = derB key s ls := ⟨_, rfl⟩
  have hFl : F.length = 32 := by rw [hF, derB_length]
  have hil : (infoB s ls).length ≤ 20000 := by
    have := infoK_le s ls 1000 hle ls.length (Nat.le_refl _)
    have h2 : ls.length * (4 + 1000) ≤ 10 * 1004 := Nat.mul_le_mul (by omega) (Nat.le_refl _)
    rw [infoB_def]; omega
  have hB0 : Below w.heap.size w ((w.alloc (.cells (u8s key) 33)).alloc (.cells (u8s (zeros 32)) 33)) := (by repeat (first | with_reducible exact Below.refl _ _ | with_reducible assumption | refine Below.drew ?_ | refine below_drewN ?_ | refine Below.alloc ?_ (by first | omega | (simp; done) | (simp; omega)) _ | refine below_setRow ?_ (by omega) _ | refine Below.setCell ?_ (by first | omega | (simp; done) | (simp; omega)) _))
  have R5 : RowIs ((w.alloc (.cells (u8s key) 33)).alloc (.cells (u8s (zeros 32)) 33)) w.heap.size (u8s key) := (RowIs.new _ _ _).alloc _
  have R8 : RowIs ((w.alloc (.cells (u8s key) 33)).alloc (.cells (u8s (zeros 32)) 33)) (w.heap.size + 1) (u8s (zeros 32)) := RowIs.new' (by simp)
  have II := Lib.hid (refinfo_any s vl ls ((w.alloc (.cells (u8s key) 33)).alloc (.cells (u8s (zeros 32)) 33)) (hr.step hB0) hs hls hle)
  obtain ⟨I, hI⟩ : ∃ I, I = infoB s ls := ⟨_, rfl⟩
  rw [← hI] at II hil
  have hFe : macB key (I ++ [1]) = F := by rw [hF, hI, derB_def]
  obtain ⟨n, hn⟩ : ∃ n, n = I.length := ⟨_, rfl⟩
  have HN := Lib.hid (show (I ++ [1]).length = n + 1 by rw [List.length_append, ← hn]; rfl)
  rw [← hn] at hil
  have HFE := Lib.hid hFe
  have HNE := Lib.hid hn
  rw [← hF]
  have hrl := hm.lt
  have hks : (u8s key).size = 32 := by rw [u8s_size]; exact hkey
  obtain ⟨Al, cl, rfl, -, -, -⟩ := id hr
  clear hF hI hn hFe hle
  go_enter Tryd.func58, Tryd.ntmps58
  go_wp2_with fail
  refine II.out.mono ?_
  rintro e w1 ⟨A1, c1, rfl, own1, hb1⟩
  rw [← HNE.out] at own1 ⊢
  replace R5 := R5.step hb1; replace R8 := R8.step hb1
  have hB := hB0.trans (hb1.mono hB0.size)
  have hm1 := hm.step hB
  have hbz := hB.size
  have h1z := hb1.size
  replace own1 := own1.more (show w.heap.size + 2 ≤ _ by simp)
  have hz2 : w.heap.size + 2 ≤ w1.heap.size := by simpa using h1z
  clear hB0 hb1 II
  have K5 := kload R5 hkey
  go_wp2_with fail
  refine (bytes_any key hkey w1).mono ?_
  rintro e w2 ⟨A2, c2, rfl, own2, hb2⟩
  rw [hkey] at own2 ⊢
  have hap := apart_new own1 (Nat.le_refl _) own2
  have hq : Below w2.heap.size w2 (w2.alloc (.cells #[.int .u8 1] 5)) := (by repeat (first | with_reducible exact Below.refl _ _ | with_reducible assumption | refine Below.drew ?_ | refine below_drewN ?_ | refine Below.alloc ?_ (by first | omega | (simp; done) | (simp; omega)) _ | refine below_setRow ?_ (by omega) _ | refine Below.setCell ?_ (by first | omega | (simp; done) | (simp; omega)) _))
  have hone := Bs.one (w := w2.alloc (.cells #[.int .u8 1] 5)) (g := w2.heap.size) (i := 1) 1 (by go_simp) (by rw [n8_def]; rfl) (by simp)
  have hbq := hb2.trans (hq.mono hb2.size)
  replace R8 := R8.step hbq; replace own1 := own1.step hbq; replace hm1 := hm1.step hbq
  replace own2 := own2.step hq
  replace hB := hB.trans (hbq.mono hbz)
  have hqz := hB.size
  have h2z := hbq.size
  clear K5 R5 hq hb2 hbq
  go_wp2_with (at_builtin; refine wpList_appendBs' Tryd.underlying27 Tryd.info8 rfl (.tmp 16) (.tmp 17) rfl (w.heap.size + 2) rfl own1 rfl hone rfl HN.out (by omega) (by omega) ?_; intro A3 c3 w3 own3 bel3 gr3)
  replace own2 := own2.kept gr3 hap.other
  have hl3 := hm1.below bel3 (by omega)
  replace R8 := R8.below bel3 (by omega)
  have hu := (Upd.of (g := r) hB).thenB (bel3.mono (by omega))
  have hz3 := bel3.size
  refine (refmac_any r N _ _ key (I ++ [1]) w3 hl3 (own2.bs (by omega)) (own3.bs (by rw [HN.out]; omega)) (by omega) (by rw [HN.out]; omega) (by omega)).mono ?_
  rintro e w4 ⟨rfl, hl4, hu4⟩
  rw [HFE.out]
  replace R8 := R8.upd hu4 (by omega)
  replace hu := hu.trans hu4
  have hr8 := R8.lt
  clear own1 own2 own3 hl3 hm1 bel3 gr3 hap hone hB hu4
  have R8h := R8.has; have R8r := R8.row; have R8l := R8.lt
  go_wp2_with fail
  refine bodyPost_retRow 8 _ (w.heap.size + 1) 32 rfl rfl (by omega) (by kernel_rfl) (by kernel_rfl) ?_ rfl ?_
  · go_simp
  · go_simp
    obtain ⟨n, h0, h1, h2⟩ := hl4
    exact ⟨rfl, ⟨n, h0, by omega, h2.set_ne (by omega) _⟩, hu.setRow (by omega) _⟩
end
end Go.Proofs.YtopmdbmnlflpgaaDoor
