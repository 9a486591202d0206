/- Layer 4: a block of the stream. -/
import Derived.Test.YtbiiffendpkidaaDoorWords
namespace Go.Proofs.YtbiiffendpkidaaDoor
open Go.RowKit
attribute [local go_sem ↓] exec_load_words exec_store_words exec_load_words' exec_store_words'
attribute [local go_sem] load_words store_words load_words' store_words' zero16z z32_length
/-! ### the plain law -/
def qa (k : Nat) : Nat := k % 4
def qb (k : Nat) : Nat := 4 + (k % 4 + k / 4) % 4
def qc (k : Nat) : Nat := 8 + (k % 4 + 2 * (k / 4)) % 4
def qd (k : Nat) : Nat := 12 + (k % 4 + 3 * (k / 4)) % 4
theorem qa_lt (k : Nat) : qa k < 16 := by unfold qa; omega
theorem qb_lt (k : Nat) : qb k < 16 := by unfold qb; omega
theorem qc_lt (k : Nat) : qc k < 16 := by unfold qc; omega
theorem qd_lt (k : Nat) : qd k < 16 := by unfold qd; omega
def qsK (l : List UInt32) : Nat → List UInt32
  | 0 => l
  | k + 1 => quarter (qsK l k) (qa k) (qb k) (qc k) (qd k)
theorem qsK_len (l : List UInt32) (k : Nat) : (qsK l k).length = l.length := by
  induction k with
  | zero => rfl
  | succ k ih => rw [qsK, quarter_len, ih]
def roundsK (l : List UInt32) : Nat → List UInt32
  | 0 => l
  | k + 1 => qsK (roundsK l k) 8
theorem roundsK_len (l : List UInt32) (k : Nat) : (roundsK l k).length = l.length := by
  induction k with
  | zero => rfl
  | succ k ih => rw [roundsK, qsK_len, ih]
@[irreducible] def up32 (x : UInt32) : UInt64 := UInt64.ofNat x.toNat
theorem up32_fold (x : UInt32) : n64 (up32 x) = n32 x := by
  unfold up32; rw [n64_def, n32_def, UInt64.toNat_ofNat']
  have := x.toNat_lt
  omega
def outAt (f l : List UInt32) (j : Nat) : UInt8 := byteOf (up32 (at32 l (j / 4) + at32 f (j / 4))) (j % 4)
def blockB (key : List UInt8) (ctr : UInt32) (nonce : List UInt8) : List UInt8 :=
  (List.range 64).map (outAt (firstW key ctr nonce) (roundsK (firstW key ctr nonce) 10))
theorem blockB_length (key : List UInt8) (ctr : UInt32) (nonce : List UInt8) : (blockB key ctr nonce).length = 64 := by simp [blockB]
theorem firstW_length (key : List UInt8) (ctr : UInt32) (nonce : List UInt8) : (firstW key ctr nonce).length = 16 := by simp [firstW, startL_length]
theorem at8_spl (l : List UInt8) (o : Nat) (cs : List UInt8) (i : Nat) (h : o + cs.length ≤ l.length) : at8 (spl l o cs) i = if i < o then at8 l i else if i < o + cs.length then at8 cs (i - o) else at8 l i := by
  have e1 : (l.take o).length = o := by simp; omega
  simp only [at8, List.getD, spl, List.append_assoc, List.getElem?_append, e1]
  split
  · rename_i hi; rw [List.getElem?_take, if_pos hi]
  · split
    · rename_i h1 h2; rw [if_pos (by omega)]
    · rename_i h1 h2
      rw [if_neg (by omega), List.getElem?_drop]
      congr 2
      omega
theorem and15 (n : Nat) (h : n < 16) : bits BinOp.and IntKind.i64 (n : Int) 15 = (n : Int) := by
  have key : ∀ n : Nat, n < 16 → bits BinOp.and IntKind.i64 (n : Int) 15 = (n : Int) := by decide +kernel
  exact key n h
/-! ### the program's -/
theorem RowIs.cell32 {w : World} {g : Nat} {l : List UInt32} (h : RowIs w g (u32s l)) (j : Nat) (hj : j < l.length) : w.cell? ⟨g, j, none⟩ = some (.int .u32 (n32 (at32 l j))) := by
  have := h.cell j hj
  rwa [Nat.zero_add] at this
theorem low4 (x : UInt32) (w : World) : Calls Tryd.prog 20 #[.int .u64 (n32 x), .int .i64 4] w fun e w' =>
    e = .returned (.slice (some ⟨w.heap.size, 0, none⟩) 4 4) ∧ w' = w.alloc (.cells (u8s (lowB (up32 x) 4)) 5) := by
  rw [← up32_fold]
  exact low_any (up32 x) 4 (by omega) (by omega) w
theorem quarter_nat (ws : List UInt32) (hw : ws.length = 16) (a b c d : Nat) (ha : a < 16) (hb : b < 16) (hc : c < 16) (hd : d < 16) (w : World) :
    Calls Tryd.prog 10 #[.agg (u32s ws), .int .i64 a, .int .i64 b, .int .i64 c, .int .i64 d] w (WordsRes w (quarter ws a b c d)) :=
  quarter_any ws hw a b c d a b c d (and15 a ha) (and15 b hb) (and15 c hc) (and15 d hd) ha hb hc hd w
@[irreducible] def qCells : Array Value := ((List.range 8).flatMap fun k => [Value.int .i64 (qa k), .int .i64 (qb k), .int .i64 (qc k), .int .i64 (qd k)]).toArray
theorem qCells_def : qCells = ((List.range 8).flatMap fun k => [Value.int .i64 (qa k), .int .i64 (qb k), .int .i64 (qc k), .int .i64 (qd k)]).toArray := by unfold qCells; rfl
theorem qCells_size : qCells.size = 32 := by rw [qCells_def]; rfl
theorem index_q (k : Nat) (h : k < 8) (w : World) : (Instr.index 47 (.agg qCells) (.int .i64 k)).run Tryd.prog w = .ok (.agg #[.int .i64 (qa k), .int .i64 (qb k), .int .i64 (qc k), .int .i64 (qd k)]) w := by
  rw [qCells_def]
  have e : k = 0 ∨ k = 1 ∨ k = 2 ∨ k = 3 ∨ k = 4 ∨ k = 5 ∨ k = 6 ∨ k = 7 := by omega
  rcases e with rfl | rfl | rfl | rfl | rfl | rfl | rfl | rfl <;> (change _ = _; kernel_rfl)
theorem load_q (w : World) (g : Nat) (hr : (rowOf w g).size = 32) : (loadAgg 47 (.pointer (some ⟨g, 0, none⟩))).run Tryd.prog w = .ok (.value (.agg (rowOf w g))) w :=
  run_loadAgg 32 47 (by omega) (by kernel_rfl) (by kernel_rfl) w g hr
theorem exec_load_q (ev : Operand → Value) (d : Option Tmp) (x : Operand) (ty : TypeId) (p : String) (af : Array Edge) (g : Option (Nat × Bool)) :
    execOp ev ⟨d, .load 47 x, ty, p, af, g⟩ = loadAgg 47 (ev x) := exec_loadAgg ev d _ x ty p af g
attribute [local go_sem ↓] exec_load_q
attribute [local go_sem] load_q qCells_size
@[irreducible] def z8 (n : Nat) : List UInt8 := List.replicate n 0
theorem z8_def (n : Nat) : z8 n = List.replicate n 0 := by unfold z8; rfl
theorem z8_length (n : Nat) : (z8 n).length = n := by simp [z8_def]
theorem zero64 : #[Value.int .u8 0, Value.int .u8 0, Value.int .u8 0, Value.int .u8 0, Value.int .u8 0, Value.int .u8 0, Value.int .u8 0, Value.int .u8 0, Value.int .u8 0, Value.int .u8 0, Value.int .u8 0, Value.int .u8 0, Value.int .u8 0, Value.int .u8 0, Value.int .u8 0, Value.int .u8 0, Value.int .u8 0, Value.int .u8 0, Value.int .u8 0, Value.int .u8 0, Value.int .u8 0, Value.int .u8 0, Value.int .u8 0, Value.int .u8 0, Value.int .u8 0, Value.int .u8 0, Value.int .u8 0, Value.int .u8 0, Value.int .u8 0, Value.int .u8 0, Value.int .u8 0, Value.int .u8 0, Value.int .u8 0, Value.int .u8 0, Value.int .u8 0, Value.int .u8 0, Value.int .u8 0, Value.int .u8 0, Value.int .u8 0, Value.int .u8 0, Value.int .u8 0, Value.int .u8 0, Value.int .u8 0, Value.int .u8 0, Value.int .u8 0, Value.int .u8 0, Value.int .u8 0, Value.int .u8 0, Value.int .u8 0, Value.int .u8 0, Value.int .u8 0, Value.int .u8 0, Value.int .u8 0, Value.int .u8 0, Value.int .u8 0, Value.int .u8 0, Value.int .u8 0, Value.int .u8 0, Value.int .u8 0, Value.int .u8 0, Value.int .u8 0, Value.int .u8 0, Value.int .u8 0, Value.int .u8 0] = u8s (z8 64) := by
  rw [z8_def]; simp [u8s_def, n8_def, List.replicate]
attribute [local go_sem] zero64
theorem load_b64 (w : World) (g : Nat) (hr : (rowOf w g).size = 64) : (loadAgg 31 (.pointer (some ⟨g, 0, none⟩))).run Tryd.prog w = .ok (.value (.agg (rowOf w g))) w :=
  run_loadAgg 64 31 (by omega) (by kernel_rfl) (by kernel_rfl) w g hr
theorem store_b64 (w : World) (g : Nat) (cs : Array Value) (hr : (rowOf w g).size = 64) (hc : cs.size = 64) (h1 : cs.all (·.oneCell') = true) :
    (storeAgg 31 (.pointer (some ⟨g, 0, none⟩)) (.agg cs)).run Tryd.prog w = .ok .skip (w.setRow g cs) :=
  run_storeAgg 64 31 (by omega) (by kernel_rfl) w g cs hr hc h1
theorem exec_load_b64 (ev : Operand → Value) (d : Option Tmp) (x : Operand) (ty : TypeId) (p : String) (af : Array Edge) (g : Option (Nat × Bool)) :
    execOp ev ⟨d, .load 31 x, ty, p, af, g⟩ = loadAgg 31 (ev x) := exec_loadAgg ev d _ x ty p af g
theorem exec_store_b64 (ev : Operand → Value) (d : Option Tmp) (x y : Operand) (ty : TypeId) (p : String) (af : Array Edge) (g : Option (Nat × Bool)) :
    execOp ev ⟨d, .store 31 x y, ty, p, af, g⟩ = storeAgg 31 (ev x) (ev y) := exec_storeAgg ev d _ x y ty p af g
attribute [local go_sem ↓] exec_load_b64 exec_store_b64
attribute [local go_sem] load_b64 store_b64 z8_length
theorem load_key (w : World) (g : Nat) (hr : (rowOf w g).size = 32) : (loadAgg 26 (.pointer (some ⟨g, 0, none⟩))).run Tryd.prog w = .ok (.value (.agg (rowOf w g))) w :=
  run_loadAgg 32 26 (by omega) (by kernel_rfl) (by kernel_rfl) w g hr
theorem exec_load_key (ev : Operand → Value) (d : Option Tmp) (x : Operand) (ty : TypeId) (p : String) (af : Array Edge) (g : Option (Nat × Bool)) :
    execOp ev ⟨d, .load 26 x, ty, p, af, g⟩ = loadAgg 26 (ev x) := exec_loadAgg ev d _ x ty p af g
theorem load_b12 (w : World) (g : Nat) (hr : (rowOf w g).size = 12) : (loadAgg 27 (.pointer (some ⟨g, 0, none⟩))).run Tryd.prog w = .ok (.value (.agg (rowOf w g))) w :=
  run_loadAgg 12 27 (by omega) (by kernel_rfl) (by kernel_rfl) w g hr
theorem exec_load_b12 (ev : Operand → Value) (d : Option Tmp) (x : Operand) (ty : TypeId) (p : String) (af : Array Edge) (g : Option (Nat × Bool)) :
    execOp ev ⟨d, .load 27 x, ty, p, af, g⟩ = loadAgg 27 (ev x) := exec_loadAgg ev d _ x ty p af g
attribute [local go_sem ↓] exec_load_key exec_load_b12
attribute [local go_sem] load_key load_b12
def BytesRes (w : World) (l : List UInt8) (e : Ending) (w' : World) : Prop := e = .returned (.agg (u8s l)) ∧ Below w.heap.size w w'

set_option maxRecDepth 100000 in
set_option maxHeartbeats 1600000 in
theorem block_any (key nonce : List UInt8) (ctr : UInt32) (hkey : key.length = 32) (hnon : nonce.length = 12) (w : World) (hs : RowIs w 1 (u32s startL)) (hq : RowIs w 0 qCells) :
    Calls Tryd.prog 12 #[.agg (u8s key), .int .u32 (n32 ctr), .agg (u8s nonce)] w (BytesRes w (blockB key ctr nonce)) := by
  have HS := Lib.hid hs
  have HQ := Lib.hid hq
  have hlt := hs.lt
  have hltq := hq.lt
  clear hs hq
  obtain ⟨f, hf⟩ : ∃ f, f = firstW key ctr nonce := ⟨_, rfl⟩
  have hfl : f.length = 16 := by rw [hf, firstW_length]
  have cw := fun w hs => words_any key nonce ctr hkey hnon w hs
  rw [← hf] at cw
  have CW := Lib.hid cw
  have HF := Lib.hid hf
  clear cw hf
  go_enter Tryd.func12, Tryd.ntmps12
  go_wp2_with (first | (refine wp_region_lex [] (by kernel_rfl) (by decide +kernel) ?_) | (refine wpLex_nil ?_) | (refine wpLex_pure rfl (fun _ _ => ?_); go_simp; try go_bits) | (refine wpLex_read rfl (fun _ _ => ?_); go_simp; try go_bits) | (refine wpLex_loud rfl (fun _ _ => ?_)))
  have B0 : Below w.heap.size w (((w.alloc (.cells (u8s key) 26)).alloc (.cells (u8s nonce) 27)).alloc (.cells (u8s (z8 64)) 31)) :=
    (((Below.refl w.heap.size w).alloc (Nat.le_refl _) _).alloc (by simp) _).alloc (by simp; omega) _
  refine (CW.out _ (HS.out.below B0 hlt)).mono ?_
  rintro e w1 ⟨rfl, hb1⟩
  have R6 : RowIs w1 (w.heap.size + 1 + 1) (u8s (z8 64)) := RowIs.below ⟨by go_simp, by go_simp⟩ hb1 (by simp)
  have hb1 := B0.trans (hb1.mono (by simp; omega))
  have hs1 := hb1.size
  have hlt6 := R6.lt
  go_wp2_with (first | (refine wp_region_lex [] (by kernel_rfl) (by decide +kernel) ?_) | (refine wpLex_nil ?_) | (refine wpLex_pure rfl (fun _ _ => ?_); go_simp; try go_bits) | (refine wpLex_read rfl (fun _ _ => ?_); go_simp; try go_bits) | (refine wpLex_loud rfl (fun _ _ => ?_)))
  have hsz8 : w.heap.size + 1 + 1 < w1.heap.size := hlt6
  go_loopw [18] (fun i wr => ∃ k : Nat, k ≤ 10 ∧ i = .int .i64 k ∧ RowIs wr (w1.heap.size + 1) (u32s (roundsK f k)) ∧ RowIs wr w1.heap.size (u32s f) ∧ RowIs wr (w.heap.size + 1 + 1) (u8s (z8 64)) ∧ Below w.heap.size w wr) (fun i _ => 10 - (intOf i).toNat)
  case atStart => exact ⟨0, by omega, rfl, RowIs.new' (by simp), (RowIs.new _ _ _).alloc _, (R6.alloc _).alloc _, (hb1.alloc hs1 _).alloc (by simp; omega) _⟩
  case round =>
    obtain ⟨k, hk, rfl, r8, r7, r6, hb⟩ := hrel
    by_cases hlt10 : k < 10
    · have hq0 := (HQ.out.below hb hltq).has
      have hql := (HQ.out.below hb hltq).lt
      have hk0 : (0 : Int) ≤ (k : Int) := by omega
      have hk1 : (k : Int) < 10 := by omega
      have hrl : (roundsK f k).length = 16 := by rw [roundsK_len, hfl]
      have HK : Hid (roundsK f (k + 1) = qsK (roundsK f k) 8) := Lib.hid rfl
      obtain ⟨l, hl⟩ : ∃ l, l = roundsK f k := ⟨_, rfl⟩
      rw [← hl] at r8 hrl HK
      have R8 := Lib.hid r8
      have R7 := Lib.hid r7
      have R6 := Lib.hid r6
      have HB := Lib.hid hb
      clear r8 r7 r6 hl hb
      go_wp2_with fail
      go_loopw [21] (fun i wr' => ∃ j : Nat, j ≤ 8 ∧ i = .int .i64 j ∧ RowIs wr' (w1.heap.size + 1) (u32s (qsK l j)) ∧ RowIs wr' w1.heap.size (u32s f) ∧ RowIs wr' (w.heap.size + 1 + 1) (u8s (z8 64)) ∧ Below w.heap.size w wr') (fun i _ => 8 - (intOf i).toNat)
      case atStart => exact ⟨0, by omega, rfl, R8.out, R7.out, R6.out, HB.out⟩
      case round =>
        obtain ⟨j, hj, rfl, r8, r7, r6, hb⟩ := hrel
        clear hq0
        by_cases hlt8 : j < 8
        · have hix := index_q j hlt8
          have hj0 : (0 : Int) ≤ (j : Int) := by omega
          have hj1 : (j : Int) < 8 := by omega
          have h8 := r8.has
          have h8r := r8.row
          have h8l := r8.lt
          have hjl : (qsK l j).length = 16 := by rw [qsK_len, hrl]
          have R8 := Lib.hid r8
          have R7 := Lib.hid r7
          have R6 := Lib.hid r6
          have HB := Lib.hid hb
          clear r8 r7 r6 hb
          go_wp2_with fail
          refine (quarter_nat (qsK l j) hjl _ _ _ _ (qa_lt j) (qb_lt j) (qc_lt j) (qd_lt j) _).mono ?_
          rintro e w2 ⟨rfl, hb2⟩
          have R8 := Lib.hid ((R8.out.alloc _).below hb2 (by simp; omega))
          have R7 := Lib.hid ((R7.out.alloc _).below hb2 (by have := R7.out.lt; simp; omega))
          have R6 := Lib.hid ((R6.out.alloc _).below hb2 (by have := R6.out.lt; simp; omega))
          have hbs := HB.out.size
          have HB := Lib.hid ((HB.out.alloc hbs _).trans (hb2.mono (by simp; omega)))
          have h8 := R8.out.has
          have h8r := R8.out.row
          have h8l := R8.out.lt
          have hql := quarter_len (qsK l j) (qa j) (qb j) (qc j) (qd j)
          rw [hjl] at hql
          go_wp2_with fail
          exact ⟨⟨j + 1, by omega, by go_num, R8.out.set _, R7.out.set_ne (by omega) _, R6.out.set_ne (by omega) _, below_setRow HB.out (by omega) _⟩, by simp [intOf]; omega⟩
        · have e8 : j = 8 := by omega
          subst e8
          go_wp2_with fail
          exact ⟨⟨k + 1, by omega, by go_num, by rw [HK.out]; exact r8, r7, r6, hb⟩, by simp [intOf]; omega⟩
    · have e10 : k = 10 := by omega
      subst e10
      have hrl : (roundsK f 10).length = 16 := by rw [roundsK_len, hfl]
      obtain ⟨l, hl⟩ : ∃ l, l = roundsK f 10 := ⟨_, rfl⟩
      rw [← hl] at r8 hrl
      have HL := Lib.hid hl
      have R8 := Lib.hid r8
      have R7 := Lib.hid r7
      have R6 := Lib.hid r6
      have hws := hb.size
      have h8l := r8.lt
      have HB := Lib.hid hb
      clear r8 r7 r6 hl hb
      rw [show ((10 : Nat) : Int) = 10 from rfl]
      obtain ⟨w3, rfl⟩ : ∃ w3, w3 = wr := ⟨_, rfl⟩
      go_wp2_with fail
      go_loopw [36] (fun i wr' => ∃ (j : Nat) (o : List UInt8), j ≤ 16 ∧ i = .int .i64 j ∧ o.length = 64 ∧ (∀ x, x < 4 * j → at8 o x = outAt f l x) ∧ RowIs wr' (w1.heap.size + 1) (u32s l) ∧ RowIs wr' w1.heap.size (u32s f) ∧ RowIs wr' (w.heap.size + 1 + 1) (u8s (z8 64)) ∧ RowIs wr' w3.heap.size (u8s o) ∧ Below w.heap.size w wr') (fun i _ => 16 - (intOf i).toNat)
      case atStart => exact ⟨0, z8 64, by omega, rfl, z8_length _, fun x hx => by omega, R8.out.alloc _, R7.out.alloc _, R6.out.alloc _, RowIs.new _ _ _, HB.out.alloc (by omega) _⟩
      case round =>
        obtain ⟨j, o, hj, rfl, hol, hox, r8, r7, r6, r11, hb⟩ := hrel
        have h8 := r8.has
        have h8r := r8.row
        have h7 := r7.has
        have h7r := r7.row
        have h6 := r6.has
        have h6r := r6.row
        have h11 := r11.has
        have h11r := r11.row
        have h11l := r11.lt
        have R8 := Lib.hid r8
        have R7 := Lib.hid r7
        have R6 := Lib.hid r6
        have R11 := Lib.hid r11
        have HB := Lib.hid hb
        have HO := Lib.hid hox
        clear r8 r7 r6 r11 hb hox
        by_cases hlt16 : j < 16
        · have hj0 : (0 : Int) ≤ (j : Int) := by omega
          have hj1 : (j : Int) < 16 := by omega
          obtain ⟨x, hx⟩ : ∃ x : Nat, (4 : Int) * j = x := ⟨4 * j, by omega⟩
          have hx0 : (0 : Int) ≤ x := by omega
          have hx64 : (x : Int) ≤ 64 := by omega
          have hne : ¬ (64 = x) := by omega
          have hcx : IntKind.u64.wrap (n32 (at32 l j + at32 f j)) = n32 (at32 l j + at32 f j) := by
            have := n32_ge (at32 l j + at32 f j); have := n32_lt (at32 l j + at32 f j); rw [wrap_u64]; omega
          have c8 := R8.out.cell32 j (by omega)
          have c7 := R7.out.cell32 j (by omega)
          go_wp2_with (first | (refine wp_region_lex [] (by kernel_rfl) (by decide +kernel) ?_) | (refine wpLex_nil ?_) | (refine wpLex_pure rfl (fun _ _ => ?_); go_simp; try go_bits) | (refine wpLex_read rfl (fun _ _ => ?_); go_simp; try go_bits) | (refine wpLex_loud rfl (fun _ _ => ?_)))
          refine (low4 _ _).mono ?_
          rintro e w4 ⟨rfl, rfl⟩
          obtain ⟨cs, hcs⟩ : ∃ cs, cs = lowB (up32 (at32 l j + at32 f j)) 4 := ⟨_, rfl⟩
          have hcl : cs.length = 4 := by rw [hcs, lowB_length]
          rw [← hcs]
          have HCS := Lib.hid hcs
          clear hcs
          go_wp2_with (first | (refine wp_region_lex [] (by kernel_rfl) (by decide +kernel) ?_) | (refine wpLex_nil ?_) | (refine wpLex_pure rfl (fun _ _ => ?_); go_simp; try go_bits) | (refine wpLex_read rfl (fun _ _ => ?_); go_simp; try go_bits) | (refine wpLex_loud rfl (fun _ _ => ?_)) | (with_reducible refine copy_here ?_; (refine wpList_copy8 rfl (.tmp 41) (.tmp 50) _ _ rfl 5 Tryd.underlying35 (by kernel_rfl) _ _ _ _ _ _ _ rfl rfl o cs ((R11.out.alloc _).drew) (by omega) _ ((rd8_new _ cs _).drew') (by omega) ?_)))
          have hb3 := HB.out.size
          refine ⟨⟨j + 1, spl o x cs, by omega, by go_num, by rw [spl_length _ _ _ (by omega)]; exact hol, fun y hy => ?_, ((R8.out.set_ne (by omega) _).alloc _).drew, ((R7.out.set_ne (by omega) _).alloc _).drew, ((R6.out.set_ne (by omega) _).alloc _).drew, ((R11.out.set _).alloc _).drew, ((below_setRow HB.out (by omega) _).alloc (by simp [World.setRow]; omega) _).drew⟩, by simp [intOf]; omega⟩
          rw [at8_spl _ _ _ _ (by omega)]
          by_cases hyx : y < x
          · rw [if_pos hyx]; exact HO.out y (by omega)
          · rw [if_neg hyx, if_pos (by omega), HCS.out, lowB, at8_map 4 _ _ (by omega)]
            unfold outAt
            rw [show y / 4 = j by omega, show y % 4 = y - x by omega]
        · have e16 : j = 16 := by omega
          subst e16
          go_wp2_with fail
          refine bodyPost_retRow 6 _ (w.heap.size + 1 + 1) 64 rfl rfl (by omega) (by kernel_rfl) (by kernel_rfl) ?_ rfl ?_
          · go_simp
          · go_simp
            refine ⟨?_, below_setRow HB.out (by omega) _⟩
            have e : o = blockB key ctr nonce := by
              unfold blockB
              rw [← HF.out, ← HL.out]
              exact ext8 hol fun y hy => HO.out y (by omega)
            rw [e]
end Go.Proofs.YtbiiffendpkidaaDoor
