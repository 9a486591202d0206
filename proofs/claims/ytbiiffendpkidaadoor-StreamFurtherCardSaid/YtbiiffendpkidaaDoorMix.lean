/- Layer 4: the stream's blocks, one by one. -/
import Derived.Test.YtbiiffendpkidaaDoorMixP
import Derived.Test.YtbiiffendpkidaaDoorRange
import Derived.Test.YtbiiffendpkidaaDoorUpd
import Derived.Test.YtbiiffendpkidaaDoorOctBs
import Derived.Test.YtbiiffendpkidaaDoorAppBs
import Derived.Deep.LoopGhost
namespace Go.Proofs.YtbiiffendpkidaaDoor
open Go.RowKit Go.Shelf
attribute [local go_sem ↓] exec_load_key exec_load_b12
attribute [local go_sem] load_key load_b12
attribute [local go_sem] Oper.semAt_some
def blocksF (a b c : Nat) : Value := .func (.func 25) #[] #[.pointer (some ⟨a, 0, none⟩), .pointer (some ⟨b, 0, none⟩), .pointer (some ⟨c, 0, none⟩)]
theorem blocks_any (key nonce : List UInt8) (ctr : UInt32) (w : World) :
    Calls Tryd.prog 22 #[.agg (u8s key), .int .u32 (n32 ctr), .agg (u8s nonce)] w fun e w' =>
      e = .returned (blocksF w.heap.size (w.heap.size + 1) (w.heap.size + 1 + 1)) ∧ w' = ((w.alloc (.cells (u8s key) 26)).alloc (.cells #[.int .u32 (n32 ctr)] 22)).alloc (.cells (u8s nonce) 27) := by
  go_enter Tryd.func22, Tryd.ntmps22
  go_wp2_with fail
  go_ret
  exact ⟨rfl, rfl⟩
/-- an iterator's step: the counter turns, new blocks come -/
structure BSt (bc : Nat) (A B : World) : Prop where
  upd : Upd bc A B
  oth : KeepsOthers A B
  ctr : ∀ c : UInt32, RowIs A bc #[.int .u32 (n32 c)] → ∃ c' : UInt32, RowIs B bc #[.int .u32 (n32 c')]
/-- what a round keeps: all that lay below B0, but for block ob -/
structure BKp (B0 ob : Nat) (A B : World) : Prop where
  size : A.heap.size ≤ B.heap.size
  same : ∀ r, r < B0 → r ≠ ob → B.heap[r]? = A.heap[r]?
theorem RowIs.kp {B0 ob r : Nat} {A B : World} {cs : Array Value} (h : RowIs A r cs) (hk : BKp B0 ob A B) (h1 : r < B0) (h2 : r ≠ ob) : RowIs B r cs := by
  have e := hk.same r h1 h2
  exact ⟨by unfold IsRow; rw [e]; exact h.row, by unfold rowOf; rw [e]; exact h.has⟩
theorem keepsOthers_below {A B : World} (h : Below A.heap.size A B) : KeepsOthers A B := ⟨h.size, fun k o hk _ => by rw [h.block k (Array.getElem?_eq_some_iff.1 hk).1]; exact hk⟩
theorem BSt.of {bc : Nat} {A B : World} (h : Below A.heap.size A B) : BSt bc A B := ⟨Upd.of h, keepsOthers_below h, fun c hc => ⟨c, hc.step h⟩⟩
theorem BSt.put {bc : Nat} {A : World} {c0 c : UInt32} (h : RowIs A bc #[.int .u32 (n32 c0)]) : BSt bc A (A.setCell ⟨bc, 0, none⟩ (.int .u32 (n32 c))) :=
  ⟨(Upd.refl _ _).put 0 _, KeepsOthers.setCell _ _ _, fun _ _ => ⟨c, by simpa using h.put 0 (.int .u32 (n32 c))⟩⟩
structure BRows (key nonce : List UInt8) (c : UInt32) (bk bc bn : Nat) (W : World) : Prop where
  key : RowIs W bk (u8s key)
  ctr : RowIs W bc #[.int .u32 (n32 c)]
  nonce : RowIs W bn (u8s nonce)
  start : RowIs W 1 (u32s startL)
  quarters : RowIs W 0 qCells
theorem BRows.step {key nonce : List UInt8} {c : UInt32} {bk bc bn : Nat} {W W' : World} (h : BRows key nonce c bk bc bn W) (hb : Below W.heap.size W W') : BRows key nonce c bk bc bn W' :=
  ⟨h.key.step hb, h.ctr.step hb, h.nonce.step hb, h.start.step hb, h.quarters.step hb⟩
theorem RowIs.cell0 {w : World} {g : Nat} {v : Value} (h : RowIs w g #[v]) : w.cell? ⟨g, 0, none⟩ = some v := by
  obtain ⟨t, ht⟩ := h.row.heap
  rw [h.has] at ht
  rw [cell_of_row w g 0 _ t (0, 0) ht]; rfl
def BArg (key : List UInt8) (ctr : UInt32) (nonce : List UInt8) (k : Nat) (vs : Array Value) (_ : World) : Prop := vs = #[.agg (u8s (blockB key (cAt ctr k) nonce))]
theorem cAt_succ (ctr : UInt32) (k : Nat) : cAt ctr k + 1 = cAt ctr (k + 1) := by
  unfold cAt; rw [UInt32.add_assoc, UInt32.ofNat_add]; rfl
theorem c_plus (ctr : UInt32) (k : Nat) : IntKind.u32.wrap (n32 (cAt ctr k) + 1) = n32 (cAt ctr (k + 1)) := by
  rw [← cAt_succ, show (1 : Int) = n32 1 by rw [n32_def]; rfl, u32_add]
set_option maxRecDepth 100000 in
set_option maxHeartbeats 1600000 in
theorem blocks1_by (key nonce : List UInt8) (ctr : UInt32) (hkey : key.length = 32) (hnon : nonce.length = 12) (bk bc bn B0 ob N n : Nat) (w : World) (h0 : BRows key nonce ctr bk bc bn w)
    (hB : w.heap.size ≤ B0) (hob : ∀ r, r = bk ∨ r = bc ∨ r = bn ∨ r = 1 ∨ r = 0 → r ≠ ob) (hbc : bk ≠ bc ∧ bn ≠ bc ∧ 1 ≠ bc ∧ 0 ≠ bc) :
    SeqBy Fence.wide n Tryd.prog 25 #[.pointer (some ⟨bk, 0, none⟩), .pointer (some ⟨bc, 0, none⟩), .pointer (some ⟨bn, 0, none⟩)] (BArg key ctr nonce) (BSt bc) (fun _ => BKp B0 ob) (fun _ => False) True N w := by
  intro l J Jx W hW hJ hJx hY hinf hj0
  refine callsIn_wide.2 ?_
  have hrow := h0.step hW
  have hszs : ∀ r, r = bk ∨ r = bc ∨ r = bn ∨ r = 1 ∨ r = 0 → r < B0 := by
    rintro r (rfl | rfl | rfl | rfl | rfl)
    · exact Nat.lt_of_lt_of_le h0.key.lt hB
    · exact Nat.lt_of_lt_of_le h0.ctr.lt hB
    · exact Nat.lt_of_lt_of_le h0.nonce.lt hB
    · exact Nat.lt_of_lt_of_le h0.start.lt hB
    · exact Nat.lt_of_lt_of_le h0.quarters.lt hB
  clear h0 hB
  have HY := Lib.hid hY
  have HINF := Lib.hid hinf
  have HJ := Lib.hid hJ
  have HOB := Lib.hid hob
  have HSZ := Lib.hid hszs
  have HBC := Lib.hid hbc
  clear hY hinf hJ hJx hob hszs hbc
  go_enter Tryd.func25, Tryd.ntmps25
  go_wp2_with fail
  go_loopg [] N (fun m wr => ∃ k s, m + k = N ∧ J k s wr ∧ s ≤ wr.heap.size ∧ BRows key nonce (cAt ctr k) bk bc bn wr)
  case atStart => exact ⟨0, W.heap.size, by omega, hj0, Nat.le_refl _, by rw [cAt_zero]; exact hrow⟩
  case round =>
    obtain ⟨k, s, hk, hj, hs, hr⟩ := hrel
    by_cases hlt : k < N
    · have hc0 := hr.ctr.cell0
      have h1 := hr.key.has; have h2 := hr.key.row; have h3 := hr.nonce.has; have h4 := hr.nonce.row
      refine (wpIn_wide (n := n)).1 ?_
      gi_wp2_with fail
      refine ⟨trivial, (fun h => by cases h), (callsIn_wide.2 (block_any key nonce (cAt ctr k) hkey hnon _ hr.start hr.quarters)).mono ?_⟩
      rintro e w1 ⟨rfl, hb1⟩
      have hj1 := HJ.out k s _ _ hj (BSt.of hb1)
      have hs1 : s ≤ w1.heap.size := Nat.le_trans hs hb1.size
      replace hr := hr.step hb1
      clear hc0 h1 h2 h3 h4 hb1 hs hj
      obtain ⟨fn, tmps, assign, body, hy, hR⟩ := HY.out k s _ w1 hlt hj1 hs1 rfl
      gi_wp2_with fail
      refine ⟨(fun h => by cases h), hR.mono ?_⟩
      rintro e W3 (⟨rfl, hj3, hk3⟩ | ⟨rfl, hx3⟩)
      · replace hr : BRows key nonce (cAt ctr k) bk bc bn W3 := ⟨hr.key.kp hk3 (HSZ.out _ (by simp)) (HOB.out _ (by simp)), hr.ctr.kp hk3 (HSZ.out _ (by simp)) (HOB.out _ (by simp)), hr.nonce.kp hk3 (HSZ.out _ (by simp)) (HOB.out _ (by simp)), hr.start.kp hk3 (HSZ.out _ (by simp)) (HOB.out _ (by simp)), hr.quarters.kp hk3 (HSZ.out _ (by simp)) (HOB.out _ (by simp))⟩
        clear hy hR hj1 hs1 hk3
        have hc0 := hr.ctr.cell0
        have hf0 := hr.ctr.fz 0
        have hcp := c_plus ctr k
        gi_wp2_with fail
        go_roundg (gk - 1)
        case measure => omega
        case rel => exact ⟨k + 1, W3.heap.size, by omega, HJ.out _ _ _ _ hj3 (BSt.put hr.ctr), by simp [World.setCell], ⟨hr.key.put_ne HBC.out.1 _, by simpa using hr.ctr.put 0 (.int .u32 (n32 (cAt ctr (k + 1)))), hr.nonce.put_ne HBC.out.2.1 _, hr.start.put_ne HBC.out.2.2.1 _, hr.quarters.put_ne HBC.out.2.2.2 _⟩⟩
      · clear hy hR hj1 hs1
        gi_wp2_with fail
        refine bodyPost_end (results_none rfl _ _ _) rfl ?_
        exact ⟨⟨_, rfl⟩, .inr ⟨k + 1, hx3⟩⟩
    · exact (HINF.out trivial s wr (by rw [show N = k by omega]; exact hj)).elim
end Go.Proofs.YtbiiffendpkidaaDoor
