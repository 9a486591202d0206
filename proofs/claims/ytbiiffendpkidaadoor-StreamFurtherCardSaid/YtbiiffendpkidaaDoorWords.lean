/- Layer 4: the words that a block begins with. -/
import Derived.Test.YtbiiffendpkidaaDoorStream
import Derived.Test.YtbiiffendpkidaaDoorVal
import Derived.Test.YtbiiffendpkidaaDoorCopy
import Derived.Test.YtbiiffendpkidaaDoorLaid
namespace Go.Proofs.YtbiiffendpkidaaDoor
open Go.RowKit
attribute [local go_sem ↓] exec_load_words exec_store_words exec_load_words' exec_store_words'
attribute [local go_sem] load_words store_words load_words' store_words'
@[irreducible] def z32 (n : Nat) : List UInt32 := List.replicate n 0
theorem z32_def (n : Nat) : z32 n = List.replicate n 0 := by unfold z32; rfl
theorem z32_length (n : Nat) : (z32 n).length = n := by simp [z32_def]
theorem zero16z : #[Value.int .u32 0, .int .u32 0, .int .u32 0, .int .u32 0, .int .u32 0, .int .u32 0, .int .u32 0, .int .u32 0, .int .u32 0, .int .u32 0, .int .u32 0, .int .u32 0, .int .u32 0, .int .u32 0, .int .u32 0, .int .u32 0] = u32s (z32 16) := by
  rw [z32_def]; exact zero16
attribute [local go_sem] zero16z z32_length
@[irreducible] def startL : List UInt32 := [1634760805, 857760878, 2036477234, 1797285236]
theorem startL_def : startL = [1634760805, 857760878, 2036477234, 1797285236] := by unfold startL; rfl
theorem startL_length : startL.length = 4 := by simp [startL_def]
/-- the sixteen words that a block begins with -/
def firstW (key : List UInt8) (ctr : UInt32) (nonce : List UInt8) : List UInt32 :=
  startL ++ (List.range 8).map (fun i => wordAt key (4 * i)) ++ [ctr] ++ (List.range 3).map (fun i => wordAt nonce (4 * i))
def firstK (key : List UInt8) (k : Nat) : List UInt32 := startL ++ (List.range k).map (fun i => wordAt key (4 * i)) ++ List.replicate (12 - k) 0
theorem firstK_length (key : List UInt8) (k : Nat) (h : k ≤ 12) : (firstK key k).length = 16 := by simp [firstK, startL_def]; omega
theorem firstK_zero (key : List UInt8) : spl (z32 16) 0 startL = firstK key 0 := by simp [firstK, startL_def, spl, z32_def, List.replicate]
theorem set_mid {α : Type} (a : List α) (x y : α) (b : List α) (n : Nat) (h : a.length = n) : (a ++ x :: b).set n y = (a ++ [y]) ++ b := by
  subst h; simp
theorem firstK_succ (key : List UInt8) (k : Nat) (h : k < 12) : (firstK key k).set (4 + k) (wordAt key (4 * k)) = firstK key (k + 1) := by
  unfold firstK
  have e : List.replicate (12 - k) (0 : UInt32) = 0 :: List.replicate (12 - (k + 1)) 0 := by
    rw [show 12 - k = (12 - (k + 1)) + 1 by omega, List.replicate_succ]
  rw [e, set_mid _ _ _ _ _ (by simp [startL_def]; omega), List.range_succ, List.map_append, List.map_singleton]
  simp
def firstN (key : List UInt8) (ctr : UInt32) (nonce : List UInt8) (k : Nat) : List UInt32 := startL ++ (List.range 8).map (fun i => wordAt key (4 * i)) ++ [ctr] ++ (List.range k).map (fun i => wordAt nonce (4 * i)) ++ List.replicate (3 - k) 0
theorem firstN_length (key : List UInt8) (ctr : UInt32) (nonce : List UInt8) (k : Nat) (h : k ≤ 3) : (firstN key ctr nonce k).length = 16 := by simp [firstN, startL_def]; omega
theorem firstN_zero (key : List UInt8) (ctr : UInt32) (nonce : List UInt8) : (firstK key 8).set 12 ctr = firstN key ctr nonce 0 := by
  unfold firstK firstN
  rw [show 12 - 8 = 3 + 1 by omega, List.replicate_succ, set_mid _ _ _ _ _ (by simp [startL_def])]
  simp
theorem firstN_succ (key : List UInt8) (ctr : UInt32) (nonce : List UInt8) (k : Nat) (h : k < 3) : (firstN key ctr nonce k).set (13 + k) (wordAt nonce (4 * k)) = firstN key ctr nonce (k + 1) := by
  unfold firstN
  have e : List.replicate (3 - k) (0 : UInt32) = 0 :: List.replicate (3 - (k + 1)) 0 := by
    rw [show 3 - k = (3 - (k + 1)) + 1 by omega, List.replicate_succ]
  rw [e, set_mid _ _ _ _ _ (by simp [startL_def]; omega), show List.range (k + 1) = List.range k ++ [k] from List.range_succ, List.map_append, List.map_singleton]
  simp
theorem firstN_all (key : List UInt8) (ctr : UInt32) (nonce : List UInt8) : firstN key ctr nonce 3 = firstW key ctr nonce := by
  unfold firstN firstW
  rw [show 3 - 3 = 0 by rfl, List.replicate_zero, List.append_nil]

set_option maxRecDepth 100000 in
set_option maxHeartbeats 1600000 in
theorem words_any (key nonce : List UInt8) (ctr : UInt32) (hkey : key.length = 32) (hnon : nonce.length = 12) (w : World) (hs : RowIs w 1 (u32s startL)) :
    Calls Tryd.prog 19 #[.agg (u8s key), .int .u32 (n32 ctr), .agg (u8s nonce)] w (WordsRes w (firstW key ctr nonce)) := by
  have HS := Lib.hid hs
  have hlt := hs.lt
  have hcell := fun j hj => hs.cell j hj
  clear hs
  go_enter Tryd.func19, Tryd.ntmps19
  have e0 := firstK_zero key
  have hsl := startL_length
  go_wp2_with (first | (refine wp_region_lex [] (by kernel_rfl) (by decide +kernel) ?_) | (refine wpLex_nil ?_) | (refine wpLex_pure rfl (fun _ _ => ?_); go_simp; try go_bits) | (refine wpLex_read rfl (fun _ _ => ?_); go_simp; try go_bits) | (refine wpLex_loud rfl (fun _ _ => ?_)) | (with_reducible refine copy_here ?_; (refine wpList_copy32 rfl (.tmp 10) (.tmp 11) _ _ rfl 22 Tryd.underlying55 (by kernel_rfl) _ _ _ _ 1 0 _ _ rfl rfl (z32 16) startL ⟨by go_simp, by go_simp⟩ (by rw [startL_length]; omega) (fun j hj => (HS.out.below ((((((Below.refl w.heap.size w).alloc (Nat.le_refl _) _).alloc (by simp) _).alloc (by simp; omega) _).alloc (by simp; omega) _).drew) hlt).cell j hj) (by rw [startL_length, z32_length]; omega) ?_); rw [e0]))
  go_loopw [13] (fun i wr => ∃ k : Nat, k ≤ 8 ∧ i = .int .i64 k ∧ wr = ((((w.alloc (.cells (u8s key) 26)).alloc (.cells (u8s nonce) 27)).alloc (.cells (u32s (z32 16)) 24)).alloc (.cells (u32s (firstK key k)) 24)).drew) (fun i _ => 8 - (intOf i).toNat)
  case atStart => exact ⟨0, by omega, rfl, rfl⟩
  case round =>
    obtain ⟨k, hk, rfl, rfl⟩ := hrel
    by_cases hlt8 : k < 8
    · have hw := wordAt_of key (4 * k)
      have hfl := firstK_length key k (by omega)
      have hfs := firstK_succ key k (by omega)
      have hk0 : (0 : Int) ≤ (k : Int) := by omega
      have hk1 : (k : Int) < 8 := by omega
      obtain ⟨x, hx⟩ : ∃ x : Nat, (4 : Int) * k = x := ⟨4 * k, by omega⟩
      obtain ⟨y, hy⟩ : ∃ y : Nat, (x : Int) + 4 = y := ⟨x + 4, by omega⟩
      have hx0 : (0 : Int) ≤ x := by omega
      have hxy : (x : Int) ≤ y := by omega
      have hy32 : (y : Int) ≤ 32 := by omega
      have hyx : y - x = 4 := by omega
      have hne : ¬ (32 = x) := by omega
      obtain ⟨z, hz⟩ : ∃ z : Nat, (4 : Int) + k = z := ⟨4 + k, by omega⟩
      have hz0 : (0 : Int) ≤ z := by omega
      have hz1 : (z : Int) < 16 := by omega
      have hz2 : z < 16 := by omega
      rw [show 4 * k = x by omega] at hw hfs
      rw [show 4 + k = z by omega] at hfs
      go_wp2_with fail
      refine (ofLow4 key x (by omega) _ _ (by omega) _ (rd8_part ⟨by go_simp, by go_simp⟩ x 4)).mono ?_
      rintro e w' ⟨rfl, rfl⟩
      go_wp2_with fail
      exact ⟨⟨k + 1, by omega, by go_num, rfl⟩, by simp [intOf]; omega⟩
    · have e8 : k = 8 := by omega
      subst e8
      rw [show ((8 : Nat) : Int) = 8 from rfl]
      have hfl := firstK_length key 8 (by omega)
      have hn0 := firstN_zero key ctr nonce
      go_wp2_with fail
      go_loopw [30] (fun i wr => ∃ k : Nat, k ≤ 3 ∧ i = .int .i64 k ∧ wr = ((((w.alloc (.cells (u8s key) 26)).alloc (.cells (u8s nonce) 27)).alloc (.cells (u32s (z32 16)) 24)).alloc (.cells (u32s (firstN key ctr nonce k)) 24)).drew) (fun i _ => 3 - (intOf i).toNat)
      case atStart => exact ⟨0, by omega, rfl, rfl⟩
      case round =>
        obtain ⟨k, hk, rfl, rfl⟩ := hrel
        by_cases hlt8 : k < 3
        · have hw := wordAt_of nonce (4 * k)
          have hfl := firstN_length key ctr nonce k (by omega)
          have hfs := firstN_succ key ctr nonce k (by omega)
          have hk0 : (0 : Int) ≤ (k : Int) := by omega
          have hk1 : (k : Int) < 3 := by omega
          obtain ⟨x, hx⟩ : ∃ x : Nat, (4 : Int) * k = x := ⟨4 * k, by omega⟩
          obtain ⟨y, hy⟩ : ∃ y : Nat, (x : Int) + 4 = y := ⟨x + 4, by omega⟩
          have hx0 : (0 : Int) ≤ x := by omega
          have hxy : (x : Int) ≤ y := by omega
          have hy32 : (y : Int) ≤ 12 := by omega
          have hyx : y - x = 4 := by omega
          have hne : ¬ (12 = x) := by omega
          obtain ⟨z, hz⟩ : ∃ z : Nat, (13 : Int) + k = z := ⟨13 + k, by omega⟩
          have hz0 : (0 : Int) ≤ z := by omega
          have hz1 : (z : Int) < 16 := by omega
          have hz2 : z < 16 := by omega
          rw [show 4 * k = x by omega] at hw hfs
          rw [show 13 + k = z by omega] at hfs
          go_wp2_with fail
          refine (ofLow4 nonce x (by omega) _ _ (by omega) _ (rd8_part ⟨by go_simp, by go_simp⟩ x 4)).mono ?_
          rintro e w' ⟨rfl, rfl⟩
          go_wp2_with fail
          exact ⟨⟨k + 1, by omega, by go_num, rfl⟩, by simp [intOf]; omega⟩
        · have e3 : k = 3 := by omega
          subst e3
          have hfl := firstN_length key ctr nonce 3 (by omega)
          rw [firstN_all] at hfl ⊢
          go_wp2_with fail
          refine bodyPost_retRow 6 _ (w.heap.size + 1 + 1) 16 rfl rfl (by omega) (by kernel_rfl) (by kernel_rfl) ?_ rfl ?_
          · go_simp
          · go_simp
            exact ⟨rfl, ((((((Below.refl w.heap.size w).alloc (Nat.le_refl _) _).alloc (by simp) _).alloc (by simp; omega) _).alloc (by simp; omega) _).drew)⟩
end Go.Proofs.YtbiiffendpkidaaDoor
