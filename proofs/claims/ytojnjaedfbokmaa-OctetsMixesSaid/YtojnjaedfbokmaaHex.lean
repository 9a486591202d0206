/- Layer 1: digits read again, by the program and by the document. -/
import Derived.Test.YtojnjaedfbokmaaBld
import Derived.Test.YtojnjaedfbokmaaOct2
namespace Go.Proofs.Ytojnjaedfbokmaa
open Go.RowKit

/-- a digit's number; -1: it is none -/
def digN (n : Nat) : Int := if 48 ≤ n ∧ n ≤ 57 then (n : Int) - 48 else if 97 ≤ n ∧ n ≤ 102 then (n : Int) - 87 else -1
@[irreducible] def digI (c : UInt8) : Int := digN c.toNat
theorem digI_def (c : UInt8) : digI c = digN c.toNat := by unfold digI; rfl
theorem digI_cases (c : UInt8) : (48 ≤ n8 c ∧ n8 c ≤ 57 ∧ digI c = n8 c - 48) ∨ (97 ≤ n8 c ∧ n8 c ≤ 102 ∧ digI c = n8 c - 87) ∨ ((n8 c < 48 ∨ 57 < n8 c) ∧ (n8 c < 97 ∨ 102 < n8 c) ∧ digI c = -1) := by
  rw [digI_def, n8_def]; unfold digN
  by_cases h1 : 48 ≤ c.toNat ∧ c.toNat ≤ 57
  · rw [if_pos h1]; left; omega
  · rw [if_neg h1]
    by_cases h2 : 97 ≤ c.toNat ∧ c.toNat ≤ 102
    · rw [if_pos h2]; right; left; omega
    · rw [if_neg h2]; right; right; omega
theorem digI_range (c : UInt8) : -1 ≤ digI c ∧ digI c ≤ 15 := by
  rcases digI_cases c with h | h | h <;> omega
def DigRes (c : UInt8) (w : World) (e : Ending) (w' : World) : Prop := e = .returned (.int .i64 (digI c)) ∧ w = w'
theorem ret_int {k : IntKind} {a b : Int} (h : a = b) : Ending.returned (.int k a) = .returned (.int k b) := by rw [h]
set_option maxHeartbeats 800000 in
theorem digit_any (c : UInt8) (w : World) : Calls Try.prog 31 #[.int .u8 (n8 c)] w (DigRes c w) := by
  have hc := digI_cases c
  unfold DigRes
  generalize digI c = d at *
  have h0 := n8_ge c
  have h1 := n8_lt c
  generalize n8 c = x at *
  have H := Lib.hid hc; clear hc
  by_cases ha : 48 ≤ x
  · by_cases hb : x ≤ 57
    · go_enter Try.func31, Try.ntmps31
      go_wp2
      go_ret
      exact ⟨ret_int (by have := H.out; omega), rfl⟩
    · by_cases hc : 97 ≤ x
      · by_cases hd : x ≤ 102
        · go_enter Try.func31, Try.ntmps31
          go_wp2
          go_ret
          exact ⟨ret_int (by have := H.out; omega), rfl⟩
        · go_enter Try.func31, Try.ntmps31
          go_wp2
          go_ret
          exact ⟨ret_int (by have := H.out; omega), rfl⟩
      · go_enter Try.func31, Try.ntmps31
        go_wp2
        go_ret
        exact ⟨ret_int (by have := H.out; omega), rfl⟩
  · have hc : ¬ 97 ≤ x := by omega
    go_enter Try.func31, Try.ntmps31
    go_wp2
    go_ret
    exact ⟨ret_int (by have := H.out; omega), rfl⟩

theorem hexD_dig : ∀ j, j < 16 → digN (hexD.getD j 0).toNat = (j : Int) := by decide
theorem hexD_all : ∀ n, n < 256 → digN n ≠ -1 → ∃ j, j < 16 ∧ (hexD.getD j 0).toNat = n := by decide +kernel
theorem hexD_at (j : Nat) (h : j < 16) : digI (at8 hexD j) = j := by rw [digI_def, at8_def]; exact hexD_dig j h
theorem hexD_none (c : UInt8) (h : ∀ j, j < 16 → at8 hexD j ≠ c) : digI c = -1 := by
  rw [digI_def]
  refine Decidable.byContradiction fun hn => ?_
  obtain ⟨j, hj, e⟩ := hexD_all c.toNat c.toNat_lt hn
  exact h j hj (by rw [at8_def]; exact UInt8.toNat_inj.1 e)
set_option maxHeartbeats 800000 in
theorem refDigit_any (c : UInt8) (w : World) : Calls Try.prog 32 #[.int .u8 (n8 c)] w (DigRes c w) := by
  have HN := Lib.hid (hexD_none c)
  have HA := Lib.hid hexD_at
  have hx : ∀ (d : Nat), d < 16 → ∀ w, (Instr.index 9 (.string ⟨hexD.toArray⟩) (.int .i64 d)).run Try.prog w = .ok (.int .u8 (n8 (at8 hexD d))) w := fun d hd w => run_index_str Try.underlying9 hexD .i64 d (by simpa [hexD] using hd) w
  have HX := Lib.hid hx; clear hx
  go_enter Try.func32, Try.ntmps32
  go_wp2
  go_loop [4] (fun i => ∃ k : Nat, k ≤ 16 ∧ i = .int .i64 k ∧ ∀ j, j < k → at8 hexD j ≠ c) (fun i => 16 - (intOf i).toNat)
  case atStart => exact ⟨0, Nat.zero_le _, rfl, fun j hj => by omega⟩
  case round =>
    obtain ⟨k, hk, rfl, hb⟩ := hrel
    have HB := Lib.hid hb; clear hb
    by_cases hlt : k < 16
    · have hk0 : (k : Int) < 16 := by omega
      have hxk := HX.out k hlt
      have hdk := HA.out k hlt
      obtain ⟨y, hy⟩ : ∃ y, y = at8 hexD k := ⟨_, rfl⟩
      rw [← hy] at hxk hdk
      have HY := Lib.hid hy; clear hy
      simp only [hexD] at hxk
      by_cases he : y = c
      · subst he
        have hbe : (n8 y == n8 y) = true := by simp
        have HD := Lib.hid hdk; clear hdk
        go_wp2
        go_ret
        exact ⟨ret_int HD.out.symm, rfl⟩
      · have hbe : (n8 y == n8 c) = false := by rw [n8_beq]; simpa using he
        have HE := Lib.hid he; clear he hdk
        go_wp2
        refine ⟨⟨k + 1, by omega, by go_num, fun j hj => ?_⟩, by simp [intOf]; omega⟩
        by_cases e : j = k
        · subst e; rw [← HY.out]; exact HE.out
        · exact HB.out j (by omega)
    · go_wp2
      go_ret
      exact ⟨ret_int (HN.out fun j hj => HB.out j (by omega)).symm, rfl⟩

/-! ### bytes of digits -/
def pairV (l : List UInt8) (k : Nat) : Option UInt8 :=
  if digI (at8 l (2 * k)) < 0 ∨ digI (at8 l (2 * k + 1)) < 0 then none else some (UInt8.ofNat (16 * digI (at8 l (2 * k)) + digI (at8 l (2 * k + 1))).toNat)
def unhexK (l : List UInt8) : Nat → Option (List UInt8)
  | 0 => some []
  | k + 1 => (unhexK l k).bind fun r => (pairV l k).map fun b => r ++ [b]
def unhexB (l : List UInt8) : Option (List UInt8) := if l.length % 2 = 1 then none else unhexK l (l.length / 2)
theorem unhexK_none {l : List UInt8} {k : Nat} (h : unhexK l k = none) : ∀ n, k ≤ n → unhexK l n = none := by
  intro n hn
  induction n with
  | zero => rw [show k = 0 by omega] at h; exact h
  | succ n ih =>
    by_cases e : k = n + 1
    · rw [← e]; exact h
    · rw [unhexK, ih (by omega)]; rfl
theorem unhexK_length {l r : List UInt8} {k : Nat} (h : unhexK l k = some r) : r.length = k := by
  induction k generalizing r with
  | zero => simp [unhexK] at h; subst h; rfl
  | succ k ih =>
    rw [unhexK] at h
    cases hk : unhexK l k with
    | none => rw [hk] at h; simp at h
    | some q =>
      rw [hk] at h
      simp only [Option.bind_some, Option.map_eq_some_iff] at h
      obtain ⟨b, _, rfl⟩ := h
      simp [ih hk]
def UnhexRes (o : Option (List UInt8)) (w : World) (e : Ending) (w' : World) : Prop :=
  match o with
  | some r => ∃ A c, e = .returned (.tuple #[.slice A r.length c, .int .i64 0]) ∧ Own8 5 w' w.heap.size (.slice A r.length c) r ∧ Below w.heap.size w w'
  | none => e = .returned (.tuple #[.slice none 0 0, .int .i64 10]) ∧ Below w.heap.size w w'
theorem byte_of16 (x y : Int) (hx0 : 0 ≤ x) (hx : x ≤ 15) (hy0 : 0 ≤ y) (hy : y ≤ 15) : IntKind.u8.wrap (16 * x + y) = n8 (UInt8.ofNat (16 * x + y).toNat) := by
  rw [wrap_u8, n8_def, UInt8.toNat_ofNat']; omega
theorem byte_of16' (x y : Int) (hx0 : 0 ≤ x) (hx : x ≤ 15) (hy0 : 0 ≤ y) (hy : y ≤ 15) : (16 * x + y) % 256 = n8 (UInt8.ofNat (16 * x + y).toNat) := by
  rw [← byte_of16 x y hx0 hx hy0 hy, wrap_u8]
set_option maxHeartbeats 1600000 in
theorem unhex_any (l : List UInt8) (hm : l.length ≤ 140737488351232) (w : World) :
    Calls Try.prog 11 #[.string ⟨l.toArray⟩] w (UnhexRes (unhexB l) w) := by
  by_cases hodd : l.length % 2 = 1
  · have hbe : (((l.length : Int) % 2) != 0) = true := by rw [bne_iff_ne]; omega
    have hu : unhexB l = none := by rw [unhexB, if_pos hodd]
    rw [hu]
    clear hodd
    go_enter Try.func11, Try.ntmps11
    go_wp2
    refine bodyPost_ret (results_tmp2 rfl _ _ _) rfl ?_
    exact ⟨rfl, Below.refl _ _⟩
  · have hbe : (((l.length : Int) % 2) != 0) = false := by simp; omega
    obtain ⟨o, hu⟩ : ∃ o, o = unhexB l := ⟨_, rfl⟩
    rw [← hu]
    obtain ⟨n, hn⟩ : ∃ n, l.length = 2 * n := ⟨l.length / 2, by omega⟩
    have hu2 : o = unhexK l n := by rw [hu, unhexB, if_neg hodd, hn]; congr 1; omega
    have hin : ∀ (i : Nat), i < l.length → ∀ w, (Instr.index 9 (.string ⟨l.toArray⟩) (.int .i64 i)).run Try.prog w = .ok (.int .u8 (n8 (at8 l i))) w := fun i hi w => run_index_str Try.underlying9 l .i64 i hi w
    have HIN := Lib.hid hin
    have HU := Lib.hid hu2
    have HN := Lib.hid hn
    clear hu hu2 hodd hin hn
    go_enter Try.func11, Try.ntmps11
    go_wp2
    go_loopw [4, 5, 6, 7] (fun v i _ _ wr => ∃ (k q : Nat) (r : List UInt8), q = 2 * k ∧ k ≤ n ∧ i = .int .i64 q ∧ unhexK l k = some r ∧ Own8 5 wr w.heap.size v r ∧ Below w.heap.size w wr) (fun _ i _ _ _ => l.length - (intOf i).toNat)
    case atStart => exact ⟨0, 0, [], rfl, by omega, rfl, rfl, Own8.nil _ _ _, Below.refl _ _⟩
    case round =>
      obtain ⟨k, q, r, hq, hk, rfl, hr, hown, hb⟩ := hrel
      have hrl := unhexK_length hr
      have hsz : w.heap.size ≤ wr.heap.size := hb.size
      have HR := Lib.hid hr
      have HQ := Lib.hid hq
      have HRL := Lib.hid hrl
      clear hr hq hrl
      by_cases hlt : q + 1 < l.length
      · have hlt0 : q < l.length := by omega
        have hql : (q : Int) + 1 < (l.length : Int) := by omega
        have hx := HIN.out q hlt0
        have hy := HIN.out (q + 1) hlt
        rw [show ((q + 1 : Nat) : Int) = (q : Int) + 1 by omega] at hy
        have hkn : k < n := by have := HQ.out; have := HN.out; omega
        have hp : pairV l k = if digI (at8 l q) < 0 ∨ digI (at8 l (q + 1)) < 0 then none else some (UInt8.ofNat (16 * digI (at8 l q) + digI (at8 l (q + 1))).toNat) := by rw [pairV, HQ.out]
        have HP := Lib.hid hp
        clear hp
        generalize at8 l q = a at *
        generalize at8 l (q + 1) = b at *
        have ha := digI_range a
        have hb2 := digI_range b
        have bw : ∀ x y : Int, 0 ≤ x → x ≤ 15 → 0 ≤ y → y ≤ 15 → IntKind.u8.wrap (16 * x + y) = n8 (UInt8.ofNat (16 * x + y).toNat) := byte_of16
        have HBW := Lib.hid bw
        clear bw
        have hda := fun w => digit_any a w
        have hdb := fun w => digit_any b w
        unfold DigRes at hda hdb
        generalize hga : digI a = x at *
        generalize hgb : digI b = y at *
        have HDA := Lib.hid hda
        have HDB := Lib.hid hdb
        clear hda hdb hga hgb
        by_cases hx0 : x < 0
        · go_wp2_with (first | (refine wp_region_lex [] (by kernel_rfl) (by decide +kernel) ?_) | (refine wpLex_nil ?_) | (refine wpLex_pure rfl (fun _ _ => ?_); go_simp; try go_bits) | (refine wpLex_read rfl (fun _ _ => ?_); go_simp; try go_bits) | (refine wpLex_loud rfl (fun _ _ => ?_)) | (go_at_call_of 31 (Value.int .u8 (n8 a)); refine (HDA.out _).mono ?_; rintro e w1 ⟨rfl, rfl⟩) | (go_at_call_of 31 (Value.int .u8 (n8 b)); refine (HDB.out _).mono ?_; rintro e w1 ⟨rfl, rfl⟩))
          refine bodyPost_ret (results_tmp2 rfl _ _ _) rfl ?_
          have hno : o = none := by
            rw [HU.out]
            exact unhexK_none (k := k + 1) (by rw [unhexK, HR.out, HP.out, if_pos (.inl hx0)]; rfl) n hkn
          rw [hno]
          exact ⟨rfl, hb.drew⟩
        · by_cases hy0 : y < 0
          · go_wp2_with (first | (refine wp_region_lex [] (by kernel_rfl) (by decide +kernel) ?_) | (refine wpLex_nil ?_) | (refine wpLex_pure rfl (fun _ _ => ?_); go_simp; try go_bits) | (refine wpLex_read rfl (fun _ _ => ?_); go_simp; try go_bits) | (refine wpLex_loud rfl (fun _ _ => ?_)) | (go_at_call_of 31 (Value.int .u8 (n8 a)); refine (HDA.out _).mono ?_; rintro e w1 ⟨rfl, rfl⟩) | (go_at_call_of 31 (Value.int .u8 (n8 b)); refine (HDB.out _).mono ?_; rintro e w1 ⟨rfl, rfl⟩))
            refine bodyPost_ret (results_tmp2 rfl _ _ _) rfl ?_
            have hno : o = none := by
              rw [HU.out]
              exact unhexK_none (k := k + 1) (by rw [unhexK, HR.out, HP.out, if_pos (.inr hy0)]; rfl) n hkn
            rw [hno]
            exact ⟨rfl, hb.drew⟩
          · have hbw := HBW.out x y (by omega) (by omega) (by omega) (by omega)
            have hbw2 := byte_of16' x y (by omega) (by omega) (by omega) (by omega)
            have hpb := HP.out
            rw [if_neg (by omega)] at hpb
            generalize UInt8.ofNat (16 * x + y).toNat = z at *
            have HPB := Lib.hid hpb
            clear hpb HP
            have hrlen : r.length + 1 ≤ 140737488355328 := by have := HRL.out; have := HN.out; omega
            go_wp2_with (first | (refine wp_region_lex [] (by kernel_rfl) (by decide +kernel) ?_) | (refine wpLex_nil ?_) | (refine wpLex_pure rfl (fun _ _ => ?_); go_simp; try go_bits) | (refine wpLex_read rfl (fun _ _ => ?_); go_simp; try go_bits) | (refine wpLex_loud rfl (fun _ _ => ?_)) | (go_at_call_of 31 (Value.int .u8 (n8 a)); refine (HDA.out _).mono ?_; rintro e w1 ⟨rfl, rfl⟩) | (go_at_call_of 31 (Value.int .u8 (n8 b)); refine (HDB.out _).mono ?_; rintro e w1 ⟨rfl, rfl⟩) | (at_builtin; refine wpList_append8 Try.underlying23 Try.info8 (by rfl) (.tmp 33) (.tmp 39) (by rfl) w.heap.size _ r (by rfl) (hown.drew.alloc _) wr.heap.size z (by rfl) (by go_simp) hrlen (by simp; omega) ?_; intro g cap w2 hown2 hg2 hat2 hlt2))
            refine ⟨⟨k + 1, q + 2, r ++ [z], by have := HQ.out; omega, by omega, by go_num, by rw [unhexK, HR.out, HPB.out]; rfl, by simpa using hown2, below_append (hb.drew.alloc (by first | omega | (simp; omega)) _) (hown.drew.alloc _) hg2 (Nat.le_refl _) (by simp; omega)⟩, by simp [intOf]; omega⟩
      · have hqb : q ≤ l.length := by have := HQ.out; have := HN.out; omega
        have hql : ¬ (q : Int) + 1 < (l.length : Int) := by omega
        have hqn : ¬ q < l.length := by have := HQ.out; have := HN.out; omega
        go_wp2
        refine bodyPost_ret (results_tmp2 rfl _ _ _) rfl ?_
        have e : k = n := by have := HQ.out; have := HN.out; omega
        have ho : o = some r := by rw [HU.out, ← e, HR.out]
        rw [ho]
        obtain ⟨A, c, hv⟩ := hown.slice
        rw [hv] at hown ⊢
        exact ⟨A, c, rfl, hown, hb⟩
set_option maxHeartbeats 1600000 in
theorem refUnhex_any (l : List UInt8) (hm : l.length ≤ 140737488351232) (w : World) :
    Calls Try.prog 12 #[.string ⟨l.toArray⟩] w (UnhexRes (unhexB l) w) := by
  by_cases hodd : l.length % 2 = 1
  · have hbe : (((l.length : Int) % 2) == 1) = true := by rw [beq_iff_eq]; omega
    have hu : unhexB l = none := by rw [unhexB, if_pos hodd]
    rw [hu]
    clear hodd
    go_enter Try.func12, Try.ntmps12
    go_wp2
    refine bodyPost_ret (results_tmp2 rfl _ _ _) rfl ?_
    exact ⟨rfl, Below.refl _ _⟩
  · have hbe : (((l.length : Int) % 2) == 1) = false := by simp; omega
    obtain ⟨o, hu⟩ : ∃ o, o = unhexB l := ⟨_, rfl⟩
    rw [← hu]
    obtain ⟨n, hn⟩ : ∃ n, l.length = 2 * n := ⟨l.length / 2, by omega⟩
    have hu2 : o = unhexK l n := by rw [hu, unhexB, if_neg hodd, hn]; congr 1; omega
    have hin : ∀ (i : Nat), i < l.length → ∀ w, (Instr.index 9 (.string ⟨l.toArray⟩) (.int .i64 i)).run Try.prog w = .ok (.int .u8 (n8 (at8 l i))) w := fun i hi w => run_index_str Try.underlying9 l .i64 i hi w
    have HIN := Lib.hid hin
    have HU := Lib.hid hu2
    have HN := Lib.hid hn
    clear hu hu2 hodd hin hn
    go_enter Try.func12, Try.ntmps12
    go_wp2
    go_loopw [4, 5, 6, 7] (fun v i _ _ wr => ∃ (k q : Nat) (r : List UInt8), q = 2 * k ∧ k ≤ n ∧ i = .int .i64 q ∧ unhexK l k = some r ∧ Own8 5 wr w.heap.size v r ∧ Below w.heap.size w wr) (fun _ i _ _ _ => l.length - (intOf i).toNat)
    case atStart => exact ⟨0, 0, [], rfl, by omega, rfl, rfl, Own8.nil _ _ _, Below.refl _ _⟩
    case round =>
      obtain ⟨k, q, r, hq, hk, rfl, hr, hown, hb⟩ := hrel
      have hrl := unhexK_length hr
      have hsz : w.heap.size ≤ wr.heap.size := hb.size
      have HR := Lib.hid hr
      have HQ := Lib.hid hq
      have HRL := Lib.hid hrl
      clear hr hq hrl
      by_cases hlt : q + 1 < l.length
      · have hlt0 : q < l.length := by omega
        have hql : (q : Int) + 1 < (l.length : Int) := by omega
        have hx := HIN.out q hlt0
        have hy := HIN.out (q + 1) hlt
        rw [show ((q + 1 : Nat) : Int) = (q : Int) + 1 by omega] at hy
        have hkn : k < n := by have := HQ.out; have := HN.out; omega
        have hp : pairV l k = if digI (at8 l q) < 0 ∨ digI (at8 l (q + 1)) < 0 then none else some (UInt8.ofNat (16 * digI (at8 l q) + digI (at8 l (q + 1))).toNat) := by rw [pairV, HQ.out]
        have HP := Lib.hid hp
        clear hp
        generalize at8 l q = a at *
        generalize at8 l (q + 1) = b at *
        have ha := digI_range a
        have hb2 := digI_range b
        have bw : ∀ x y : Int, 0 ≤ x → x ≤ 15 → 0 ≤ y → y ≤ 15 → IntKind.u8.wrap (16 * x + y) = n8 (UInt8.ofNat (16 * x + y).toNat) := byte_of16
        have HBW := Lib.hid bw
        clear bw
        have hda := fun w => refDigit_any a w
        have hdb := fun w => refDigit_any b w
        unfold DigRes at hda hdb
        generalize hga : digI a = x at *
        generalize hgb : digI b = y at *
        have HDA := Lib.hid hda
        have HDB := Lib.hid hdb
        clear hda hdb hga hgb
        by_cases hx0 : x < 0
        · go_wp2_with (first | (refine wp_region_lex [] (by kernel_rfl) (by decide +kernel) ?_) | (refine wpLex_nil ?_) | (refine wpLex_pure rfl (fun _ _ => ?_); go_simp; try go_bits) | (refine wpLex_read rfl (fun _ _ => ?_); go_simp; try go_bits) | (refine wpLex_loud rfl (fun _ _ => ?_)) | (go_at_call_of 32 (Value.int .u8 (n8 a)); refine (HDA.out _).mono ?_; rintro e w1 ⟨rfl, rfl⟩) | (go_at_call_of 32 (Value.int .u8 (n8 b)); refine (HDB.out _).mono ?_; rintro e w1 ⟨rfl, rfl⟩))
          refine bodyPost_ret (results_tmp2 rfl _ _ _) rfl ?_
          have hno : o = none := by
            rw [HU.out]
            exact unhexK_none (k := k + 1) (by rw [unhexK, HR.out, HP.out, if_pos (.inl hx0)]; rfl) n hkn
          rw [hno]
          exact ⟨rfl, hb⟩
        · by_cases hy0 : y < 0
          · go_wp2_with (first | (refine wp_region_lex [] (by kernel_rfl) (by decide +kernel) ?_) | (refine wpLex_nil ?_) | (refine wpLex_pure rfl (fun _ _ => ?_); go_simp; try go_bits) | (refine wpLex_read rfl (fun _ _ => ?_); go_simp; try go_bits) | (refine wpLex_loud rfl (fun _ _ => ?_)) | (go_at_call_of 32 (Value.int .u8 (n8 a)); refine (HDA.out _).mono ?_; rintro e w1 ⟨rfl, rfl⟩) | (go_at_call_of 32 (Value.int .u8 (n8 b)); refine (HDB.out _).mono ?_; rintro e w1 ⟨rfl, rfl⟩))
            refine bodyPost_ret (results_tmp2 rfl _ _ _) rfl ?_
            have hno : o = none := by
              rw [HU.out]
              exact unhexK_none (k := k + 1) (by rw [unhexK, HR.out, HP.out, if_pos (.inr hy0)]; rfl) n hkn
            rw [hno]
            exact ⟨rfl, hb⟩
          · have hbw := HBW.out x y (by omega) (by omega) (by omega) (by omega)
            have hbw2 := byte_of16' x y (by omega) (by omega) (by omega) (by omega)
            have hpb := HP.out
            rw [if_neg (by omega)] at hpb
            generalize UInt8.ofNat (16 * x + y).toNat = z at *
            have HPB := Lib.hid hpb
            clear hpb HP
            have hrlen : r.length + 1 ≤ 140737488355328 := by have := HRL.out; have := HN.out; omega
            go_wp2_with (first | (refine wp_region_lex [] (by kernel_rfl) (by decide +kernel) ?_) | (refine wpLex_nil ?_) | (refine wpLex_pure rfl (fun _ _ => ?_); go_simp; try go_bits) | (refine wpLex_read rfl (fun _ _ => ?_); go_simp; try go_bits) | (refine wpLex_loud rfl (fun _ _ => ?_)) | (go_at_call_of 32 (Value.int .u8 (n8 a)); refine (HDA.out _).mono ?_; rintro e w1 ⟨rfl, rfl⟩) | (go_at_call_of 32 (Value.int .u8 (n8 b)); refine (HDB.out _).mono ?_; rintro e w1 ⟨rfl, rfl⟩) | (at_builtin; refine wpList_append8 Try.underlying23 Try.info8 (by rfl) (.tmp 34) (.tmp 40) (by rfl) w.heap.size _ r (by rfl) (hown.alloc _) wr.heap.size z (by rfl) (by go_simp) hrlen (by simp; omega) ?_; intro g cap w2 hown2 hg2 hat2 hlt2))
            refine ⟨⟨k + 1, q + 2, r ++ [z], by have := HQ.out; omega, by omega, by go_num, by rw [unhexK, HR.out, HPB.out]; rfl, by simpa using hown2, below_append (hb.alloc (by first | omega | (simp; omega)) _) (hown.alloc _) hg2 (Nat.le_refl _) (by simp; omega)⟩, by simp [intOf]; omega⟩
      · have hqb : q ≤ l.length := by have := HQ.out; have := HN.out; omega
        have hql : ¬ (q : Int) + 1 < (l.length : Int) := by omega
        have hqn : ¬ q < l.length := by have := HQ.out; have := HN.out; omega
        go_wp2
        refine bodyPost_ret (results_tmp2 rfl _ _ _) rfl ?_
        have e : k = n := by have := HQ.out; have := HN.out; omega
        have ho : o = some r := by rw [HU.out, ← e, HR.out]
        rw [ho]
        obtain ⟨A, c, hv⟩ := hown.slice
        rw [hv] at hown ⊢
        exact ⟨A, c, rfl, hown, hb⟩
end Go.Proofs.Ytojnjaedfbokmaa
