/- Layer 4 (stream): quarters. -/
import Derived.Test.YtbiiffendpkidaaDoorRot
namespace Go.Proofs.YtbiiffendpkidaaDoor
open Go.RowKit
@[irreducible] def q1 (w : List UInt32) (a b : Nat) : List UInt32 := w.set a (at32 w a + at32 w b)
@[irreducible] def q2 (w : List UInt32) (d a t : Nat) : List UInt32 := w.set d (rotl (at32 w d ^^^ at32 w a) t)
theorem q1_def (w : List UInt32) (a b : Nat) : w.set a (at32 w a + at32 w b) = q1 w a b := by unfold q1; rfl
theorem q2_def (w : List UInt32) (d a t : Nat) : w.set d (rotl (at32 w d ^^^ at32 w a) t) = q2 w d a t := by unfold q2; rfl
theorem q1_len (w : List UInt32) (a b : Nat) : (q1 w a b).length = w.length := by simp [← q1_def]
theorem q2_len (w : List UInt32) (d a t : Nat) : (q2 w d a t).length = w.length := by simp [← q2_def]
attribute [local go_sem] q1_def q2_def q1_len q2_len
@[irreducible] def qhalf (w : List UInt32) (a b c d t1 t2 : Nat) : List UInt32 := q2 (q1 (q2 (q1 w a b) d a t1) c d) b c t2
theorem qhalf_def (w : List UInt32) (a b c d t1 t2 : Nat) : q2 (q1 (q2 (q1 w a b) d a t1) c d) b c t2 = qhalf w a b c d t1 t2 := by unfold qhalf; rfl
theorem qhalf_len (w : List UInt32) (a b c d t1 t2 : Nat) : (qhalf w a b c d t1 t2).length = w.length := by simp [← qhalf_def, q1_len, q2_len]
attribute [local go_sem] qhalf_len qhalf_def
def quarter (w : List UInt32) (a b c d : Nat) : List UInt32 := qhalf (qhalf w a b c d 16 12) a b c d 8 7
theorem quarter_len (w : List UInt32) (a b c d : Nat) : (quarter w a b c d).length = w.length := by simp [quarter, qhalf_len]
theorem load_words (w : World) (g : Nat) (hr : (rowOf w g).size = 16) : (loadAgg 24 (.pointer (some ⟨g, 0, none⟩))).run Tryd.prog w = .ok (.value (.agg (rowOf w g))) w :=
  run_loadAgg 16 24 (by omega) (by kernel_rfl) (by kernel_rfl) w g hr
theorem store_words (w : World) (g : Nat) (cs : Array Value) (hr : (rowOf w g).size = 16) (hc : cs.size = 16) (h1 : cs.all (·.oneCell') = true) :
    (storeAgg 24 (.pointer (some ⟨g, 0, none⟩)) (.agg cs)).run Tryd.prog w = .ok .skip (w.setRow g cs) :=
  run_storeAgg 16 24 (by omega) (by kernel_rfl) w g cs hr hc h1
theorem exec_load_words (ev : Operand → Value) (d : Option Tmp) (x : Operand) (ty : TypeId) (p : String) (af : Array Edge) (g : Option (Nat × Bool)) :
    execOp ev ⟨d, .load 24 x, ty, p, af, g⟩ = loadAgg 24 (ev x) := exec_loadAgg ev d _ x ty p af g
theorem exec_store_words (ev : Operand → Value) (d : Option Tmp) (x y : Operand) (ty : TypeId) (p : String) (af : Array Edge) (g : Option (Nat × Bool)) :
    execOp ev ⟨d, .store 24 x y, ty, p, af, g⟩ = storeAgg 24 (ev x) (ev y) := exec_storeAgg ev d _ x y ty p af g
attribute [local go_sem ↓] exec_load_words exec_store_words
attribute [local go_sem] load_words store_words
/-- the same for the document's words -/
theorem load_words' (w : World) (g : Nat) (hr : (rowOf w g).size = 16) : (loadAgg 23 (.pointer (some ⟨g, 0, none⟩))).run Tryd.prog w = .ok (.value (.agg (rowOf w g))) w :=
  run_loadAgg 16 23 (by omega) (by kernel_rfl) (by kernel_rfl) w g hr
theorem store_words' (w : World) (g : Nat) (cs : Array Value) (hr : (rowOf w g).size = 16) (hc : cs.size = 16) (h1 : cs.all (·.oneCell') = true) :
    (storeAgg 23 (.pointer (some ⟨g, 0, none⟩)) (.agg cs)).run Tryd.prog w = .ok .skip (w.setRow g cs) :=
  run_storeAgg 16 23 (by omega) (by kernel_rfl) w g cs hr hc h1
theorem exec_load_words' (ev : Operand → Value) (d : Option Tmp) (x : Operand) (ty : TypeId) (p : String) (af : Array Edge) (g : Option (Nat × Bool)) :
    execOp ev ⟨d, .load 23 x, ty, p, af, g⟩ = loadAgg 23 (ev x) := exec_loadAgg ev d _ x ty p af g
theorem exec_store_words' (ev : Operand → Value) (d : Option Tmp) (x y : Operand) (ty : TypeId) (p : String) (af : Array Edge) (g : Option (Nat × Bool)) :
    execOp ev ⟨d, .store 23 x y, ty, p, af, g⟩ = storeAgg 23 (ev x) (ev y) := exec_storeAgg ev d _ x y ty p af g
attribute [local go_sem ↓] exec_load_words' exec_store_words'
attribute [local go_sem] load_words' store_words'
def WordsRes (w : World) (ws : List UInt32) (e : Ending) (w' : World) : Prop := e = .returned (.agg (u32s ws)) ∧ Below w.heap.size w w'
theorem zero16 : #[Value.int .u32 0, .int .u32 0, .int .u32 0, .int .u32 0, .int .u32 0, .int .u32 0, .int .u32 0, .int .u32 0, .int .u32 0, .int .u32 0, .int .u32 0, .int .u32 0, .int .u32 0, .int .u32 0, .int .u32 0, .int .u32 0] = u32s (List.replicate 16 0) := by
  simp [u32s_def, n32_def, List.replicate]
attribute [local go_sem] zero16
set_option maxRecDepth 100000 in
set_option maxHeartbeats 1600000 in
theorem quarter_any (ws : List UInt32) (hw : ws.length = 16) (a b c d : Int) (na nb nc nd : Nat)
    (ha : bits BinOp.and IntKind.i64 a 15 = (na : Int)) (hb : bits BinOp.and IntKind.i64 b 15 = (nb : Int)) (hc : bits BinOp.and IntKind.i64 c 15 = (nc : Int)) (hd : bits BinOp.and IntKind.i64 d 15 = (nd : Int))
    (ha2 : na < 16) (hb2 : nb < 16) (hc2 : nc < 16) (hd2 : nd < 16) (w : World) :
    Calls Tryd.prog 10 #[.agg (u32s ws), .int .i64 a, .int .i64 b, .int .i64 c, .int .i64 d] w (WordsRes w (quarter ws na nb nc nd)) := by
  have ea0 : (0 : Int) ≤ (na : Int) := by omega
  have eb0 : (0 : Int) ≤ (nb : Int) := by omega
  have ec0 : (0 : Int) ≤ (nc : Int) := by omega
  have ed0 : (0 : Int) ≤ (nd : Int) := by omega
  have ea1 : (na : Int) < 16 := by omega
  have eb1 : (nb : Int) < 16 := by omega
  have ec1 : (nc : Int) < 16 := by omega
  have ed1 : (nd : Int) < 16 := by omega
  have i0 : ∀ w, (Instr.index 43 (.agg #[.int .i64 16, .int .i64 12, .int .i64 8, .int .i64 7]) (.int .i64 0)).run Tryd.prog w = .ok (.agg #[.int .i64 16, .int .i64 12]) w := fun _ => by kernel_rfl
  have i1 : ∀ w, (Instr.index 43 (.agg #[.int .i64 16, .int .i64 12, .int .i64 8, .int .i64 7]) (.int .i64 1)).run Tryd.prog w = .ok (.agg #[.int .i64 8, .int .i64 7]) w := fun _ => by kernel_rfl
  go_enter Tryd.func10, Tryd.ntmps10
  go_wp2
  go_loopw [24] (fun i wr => ∃ (k : Nat) (l : List UInt32), k ≤ 2 ∧ i = .int .i64 k ∧ l.length = 16 ∧ RowIs wr w.heap.size (u32s l) ∧ RowIs wr (w.heap.size + 1) (u32s (List.replicate 16 0)) ∧ Below w.heap.size w wr ∧ l = if k = 0 then ws else if k = 1 then qhalf ws na nb nc nd 16 12 else quarter ws na nb nc nd) (fun i _ => 2 - (intOf i).toNat)
  case atStart => exact ⟨0, ws, by omega, rfl, hw, (RowIs.new _ _ _).alloc _, RowIs.new' (by simp), (((Below.refl _ _).alloc (Nat.le_refl _) _).alloc (by simp) _), by simp⟩
  case round =>
    obtain ⟨k, l, hk, rfl, hl, hr, hr2, hbel, hlk⟩ := hrel
    have hlt := hr.lt
    have hlt2 := hr2.lt
    have hg := hr.row
    have hg2 := hr2.row
    have hrow2 := hr2.has
    have HR := Lib.hid hr
    have HR2 := Lib.hid hr2
    have HK := Lib.hid hlk
    have hsz := hbel.size
    rw [hr.eq]
    clear hr hr2 hlk
    by_cases hk0 : k = 0
    · subst hk0
      go_wp2_with (first | (refine wp_region_lex [] (by kernel_rfl) (by decide +kernel) ?_) | (refine wpLex_nil ?_) | (refine wpLex_pure rfl (fun _ _ => ?_); go_simp; try go_bits) | (refine wpLex_read rfl (fun _ _ => ?_); go_simp; try go_bits) | (refine wpLex_loud rfl (fun _ _ => ?_)))
      refine (rot_at _ 16 16 rfl (by omega) (by omega) _).mono ?_
      rintro e w1 ⟨rfl, rfl⟩
      go_wp2_with (first | (refine wp_region_lex [] (by kernel_rfl) (by decide +kernel) ?_) | (refine wpLex_nil ?_) | (refine wpLex_pure rfl (fun _ _ => ?_); go_simp; try go_bits) | (refine wpLex_read rfl (fun _ _ => ?_); go_simp; try go_bits) | (refine wpLex_loud rfl (fun _ _ => ?_)))
      refine (rot_at _ 12 12 rfl (by omega) (by omega) _).mono ?_
      rintro e w1 ⟨rfl, rfl⟩
      go_wp2_with (first | (refine wp_region_lex [] (by kernel_rfl) (by decide +kernel) ?_) | (refine wpLex_nil ?_) | (refine wpLex_pure rfl (fun _ _ => ?_); go_simp; try go_bits) | (refine wpLex_read rfl (fun _ _ => ?_); go_simp; try go_bits) | (refine wpLex_loud rfl (fun _ _ => ?_)))
      refine ⟨⟨1, _, by omega, rfl, by simp [qhalf_len, hl], ((HR.out.set _).alloc _).drew.drew.drew.drew, ((HR2.out.set_ne (by omega) _).alloc _).drew.drew.drew.drew, ((below_setRow hbel (Nat.le_refl _) _).alloc (by simp [World.setRow]; omega) _).drew.drew.drew.drew, ?_⟩, by simp [intOf]⟩
      simp [HK.out]
    by_cases hk1 : k = 1
    · subst hk1
      go_wp2_with (first | (refine wp_region_lex [] (by kernel_rfl) (by decide +kernel) ?_) | (refine wpLex_nil ?_) | (refine wpLex_pure rfl (fun _ _ => ?_); go_simp; try go_bits) | (refine wpLex_read rfl (fun _ _ => ?_); go_simp; try go_bits) | (refine wpLex_loud rfl (fun _ _ => ?_)))
      refine (rot_at _ 8 8 rfl (by omega) (by omega) _).mono ?_
      rintro e w1 ⟨rfl, rfl⟩
      go_wp2_with (first | (refine wp_region_lex [] (by kernel_rfl) (by decide +kernel) ?_) | (refine wpLex_nil ?_) | (refine wpLex_pure rfl (fun _ _ => ?_); go_simp; try go_bits) | (refine wpLex_read rfl (fun _ _ => ?_); go_simp; try go_bits) | (refine wpLex_loud rfl (fun _ _ => ?_)))
      refine (rot_at _ 7 7 rfl (by omega) (by omega) _).mono ?_
      rintro e w1 ⟨rfl, rfl⟩
      go_wp2_with (first | (refine wp_region_lex [] (by kernel_rfl) (by decide +kernel) ?_) | (refine wpLex_nil ?_) | (refine wpLex_pure rfl (fun _ _ => ?_); go_simp; try go_bits) | (refine wpLex_read rfl (fun _ _ => ?_); go_simp; try go_bits) | (refine wpLex_loud rfl (fun _ _ => ?_)))
      refine ⟨⟨2, _, by omega, rfl, by simp [qhalf_len, hl], ((HR.out.set _).alloc _).drew.drew.drew.drew, ((HR2.out.set_ne (by omega) _).alloc _).drew.drew.drew.drew, ((below_setRow hbel (Nat.le_refl _) _).alloc (by simp [World.setRow]; omega) _).drew.drew.drew.drew, ?_⟩, by simp [intOf]⟩
      simp [HK.out, quarter]
    · have hk2 : k = 2 := by omega
      subst hk2
      go_wp2_with (first | (refine wp_region_lex [] (by kernel_rfl) (by decide +kernel) ?_) | (refine wpLex_nil ?_) | (refine wpLex_pure rfl (fun _ _ => ?_); go_simp; try go_bits) | (refine wpLex_read rfl (fun _ _ => ?_); go_simp; try go_bits) | (refine wpLex_loud rfl (fun _ _ => ?_)))
      refine bodyPost_retRow 10 _ (w.heap.size + 1) 16 rfl rfl (by omega) (by kernel_rfl) (by kernel_rfl) ?_ rfl ?_
      · go_simp
      · go_simp
        exact ⟨by rw [HK.out]; rfl, below_setRow (below_setRow hbel (Nat.le_refl _) _) (by omega) _⟩
set_option maxRecDepth 100000 in
set_option maxHeartbeats 1600000 in
theorem refQuarter_any (ws : List UInt32) (hw : ws.length = 16) (a b c d : Int) (na nb nc nd : Nat)
    (ha : bits BinOp.and IntKind.i64 a 15 = (na : Int)) (hb : bits BinOp.and IntKind.i64 b 15 = (nb : Int)) (hc : bits BinOp.and IntKind.i64 c 15 = (nc : Int)) (hd : bits BinOp.and IntKind.i64 d 15 = (nd : Int))
    (ha2 : na < 16) (hb2 : nb < 16) (hc2 : nc < 16) (hd2 : nd < 16) (w : World) :
    Calls Tryd.prog 11 #[.agg (u32s ws), .int .i64 a, .int .i64 b, .int .i64 c, .int .i64 d] w (WordsRes w (quarter ws na nb nc nd)) := by
  have ea0 : (0 : Int) ≤ (na : Int) := by omega
  have eb0 : (0 : Int) ≤ (nb : Int) := by omega
  have ec0 : (0 : Int) ≤ (nc : Int) := by omega
  have ed0 : (0 : Int) ≤ (nd : Int) := by omega
  have ea1 : (na : Int) < 16 := by omega
  have eb1 : (nb : Int) < 16 := by omega
  have ec1 : (nc : Int) < 16 := by omega
  have ed1 : (nd : Int) < 16 := by omega
  go_enter Tryd.func11, Tryd.ntmps11
  go_wp2_with (first | (refine wp_region_lex [] (by kernel_rfl) (by decide +kernel) ?_) | (refine wpLex_nil ?_) | (refine wpLex_pure rfl (fun _ _ => ?_); go_simp; try go_bits) | (refine wpLex_read rfl (fun _ _ => ?_); go_simp; try go_bits) | (refine wpLex_loud rfl (fun _ _ => ?_)))
  refine (left_at _ 16 16 rfl (by omega) (by omega) _).mono ?_
  rintro e w1 ⟨rfl, n1, rfl⟩
  go_wp2_with (first | (refine wp_region_lex [] (by kernel_rfl) (by decide +kernel) ?_) | (refine wpLex_nil ?_) | (refine wpLex_pure rfl (fun _ _ => ?_); go_simp; try go_bits) | (refine wpLex_read rfl (fun _ _ => ?_); go_simp; try go_bits) | (refine wpLex_loud rfl (fun _ _ => ?_)))
  refine (left_at _ 12 12 rfl (by omega) (by omega) _).mono ?_
  rintro e w1 ⟨rfl, n1', rfl⟩
  go_wp2_with (first | (refine wp_region_lex [] (by kernel_rfl) (by decide +kernel) ?_) | (refine wpLex_nil ?_) | (refine wpLex_pure rfl (fun _ _ => ?_); go_simp; try go_bits) | (refine wpLex_read rfl (fun _ _ => ?_); go_simp; try go_bits) | (refine wpLex_loud rfl (fun _ _ => ?_)))
  refine (left_at _ 8 8 rfl (by omega) (by omega) _).mono ?_
  rintro e w1 ⟨rfl, n1'', rfl⟩
  go_wp2_with (first | (refine wp_region_lex [] (by kernel_rfl) (by decide +kernel) ?_) | (refine wpLex_nil ?_) | (refine wpLex_pure rfl (fun _ _ => ?_); go_simp; try go_bits) | (refine wpLex_read rfl (fun _ _ => ?_); go_simp; try go_bits) | (refine wpLex_loud rfl (fun _ _ => ?_)))
  refine (left_at _ 7 7 rfl (by omega) (by omega) _).mono ?_
  rintro e w1 ⟨rfl, n1''', rfl⟩
  go_wp2_with (first | (refine wp_region_lex [] (by kernel_rfl) (by decide +kernel) ?_) | (refine wpLex_nil ?_) | (refine wpLex_pure rfl (fun _ _ => ?_); go_simp; try go_bits) | (refine wpLex_read rfl (fun _ _ => ?_); go_simp; try go_bits) | (refine wpLex_loud rfl (fun _ _ => ?_)))
  refine bodyPost_retRow 10 _ (w.heap.size + 1) 16 rfl rfl (by omega) (by kernel_rfl) (by kernel_rfl) ?_ rfl ?_
  · go_simp
  · go_simp
    exact ⟨rfl, below_drewN (((Below.refl _ _).alloc (Nat.le_refl _) _).alloc (by simp) _)⟩
end Go.Proofs.YtbiiffendpkidaaDoor
