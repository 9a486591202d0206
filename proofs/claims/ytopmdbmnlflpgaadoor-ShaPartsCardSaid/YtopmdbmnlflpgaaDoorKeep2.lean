/- A meter that keeps: its Inputs, and its Count. -/
import Derived.Test.YtopmdbmnlflpgaaDoorKeep1
namespace Go.Proofs.YtopmdbmnlflpgaaDoor
open Go.RowKit Go.MuLone
def InRes (g base : Nat) (n : Int) (v : Value) (ks : BL) (w : World) (e : Ending) (w' : World) : Prop :=
  ∃ u, e = .returned u ∧ Met w' g n true v ∧ OwnL w' base v ks ∧ OwnL w' w.heap.size u ks ∧ Upd g w w'
set_option maxRecDepth 100000 in
set_option maxHeartbeats 1600000 in
theorem inputs_any (g base : Nat) (n : Int) (v : Value) (ks : List (List UInt8)) (w : World) (hm : Met w g n true v) (hown : OwnL w base v ks) (hkl : ks.length ≤ 1000) :
    Calls Tryd.prog 37 #[.pointer (some ⟨g, 0, none⟩)] w (InRes g base n v ks w) := by
  obtain ⟨A0, c0, rfl, -⟩ := hown.slice
  obtain ⟨nk, hnk⟩ : ∃ n, n = ks.length := ⟨_, rfl⟩
  have HNK := Lib.hid hnk
  rw [← hnk] at hm hown hkl ⊢
  clear hnk
  have hgl := RowIs.lt hm
  go_enter_defers Tryd.func37, Tryd.ntmps37
  go_wp2_with fail
  refine (lock_free muLib ⟨g, 2, none⟩ _ hm.c2 (RowIs.fz hm 2)).mono ?_
  rintro e w3' ⟨rfl, rfl⟩
  have hu3 : Upd g w (w.setCell ⟨g, 2, none⟩ (.int .i32 1)) := (Upd.refl g w).put 2 _
  have hm3 : MetK (w.setCell ⟨g, 2, none⟩ (.int .i32 1)) g n 1 (.slice A0 nk c0) := by
    have := RowIs.put hm 2 (.int .i32 1)
    unfold MetK; rw [metC_def] at this
    simpa using this
  replace hown := hown.upd hu3 (hm.no8 (by intro b; simp)) (hown.ne_row hm (metC_no _ _ _))
  have hz3 : (w.setCell ⟨g, 2, none⟩ (.int .i32 1)).heap.size = w.heap.size := by simp [World.setCell]
  obtain ⟨w3, hw3⟩ : ∃ w3, w3 = w.setCell ⟨g, 2, none⟩ (.int .i32 1) := ⟨_, rfl⟩
  rw [← hw3] at hu3 hm3 hown hz3 ⊢
  clear hw3 hm
  have c4 := hm3.c4
  have hbl := hown.bsl (by rw [← HNK.out]; omega)
  have HBL := Lib.hid hbl
  have HOWN := Lib.hid hown
  clear hown hbl
  go_wp2_with fail
  go_loopw [20, 3] (fun i u wr => ∃ k : Nat, i = .int .i64 k ∧ k ≤ nk ∧ OwnL wr w3.heap.size u (ks.take k) ∧ Below w3.heap.size w3 wr) (fun i _ _ => nk - (intOf i).toNat)
  case atStart => exact ⟨0, rfl, by omega, OwnL.nil _ _, Below.refl _ _⟩
  case round =>
    obtain ⟨k, rfl, hk, own, hb⟩ := hrel
    have hsz := hb.size
    obtain ⟨Au, cu, rfl, -⟩ := own.slice
    have hlt0 : (ks.take k).length = k := by rw [List.length_take, ← HNK.out]; omega
    rw [hlt0] at own ⊢
    by_cases hlt : k < nk
    · obtain ⟨A', c', e', -, -, hrd⟩ := HBL.out
      injection e' with e1 e2 e3
      obtain ⟨gl, ol, e4, hgl2, hat⟩ := hrd (by rw [← HNK.out]; omega)
      obtain ⟨x, hx, hbx⟩ := hat k (by rw [← HNK.out]; exact hlt)
      rw [← e1] at e4
      subst e4
      clear e1 e2 e3 hrd hat
      have f0 := (hb.cell (p := ⟨gl, ol + k, none⟩) hgl2).trans hx
      have hbx' := hbx.step hb
      have hk0 : (0 : Int) ≤ (k : Int) := by omega
      have hk1 : (k : Int) < nk := by omega
      have htk : ks.take (k + 1) = ks.take k ++ [nthL ks k] := by
        rw [List.take_add_one, nthL_def]; simp [List.getD, show k < ks.length by rw [← HNK.out]; exact hlt]
      have HTK := Lib.hid htk
      have hwk : IntKind.i64.wrap ((k : Int) + 1) = ((k + 1 : Nat) : Int) := by rw [IntKind.wrap_i64]; omega
      clear hx hbx htk
      go_wp2_with fail
      refine (clone_bs hbx').mono ?_
      rintro e wa ⟨va, rfl, hva, hba⟩
      replace own := own.step hba
      replace hb := hb.trans (hba.mono hsz)
      obtain ⟨Av, cv, rfl, -, -, -⟩ := id hva
      obtain ⟨lv, hlv⟩ : ∃ l, l = (nthL ks k).length := ⟨_, rfl⟩
      rw [← hlv] at hva ⊢
      clear hlv hba f0 hbx'
      have hq : Below wa.heap.size wa (wa.alloc (.cells #[.slice Av lv cv] 27)) := (by repeat (first | with_reducible exact Below.refl _ _ | with_reducible assumption | refine Below.drew ?_ | refine below_drewN ?_ | refine Below.alloc ?_ (by first | omega | (simp; done) | (simp; omega)) _ | refine below_setRow ?_ (by omega) _ | refine Below.setCell ?_ (by first | omega | (simp; done) | (simp; omega)) _))
      have hms := BsL.lit1 (w := wa) 27 rfl hva
      replace own := own.step hq
      have hb2 := hb.trans (hq.mono hb.size)
      have hsz2 := hb2.size
      go_wp2_with (at_builtin; refine wpList_appendL rfl (.tmp 24) (.tmp 27) rfl (N := k + 1) rfl own rfl hms (by rw [hlt0]; rfl) (by omega) hsz2 ?_; intro A5 c5 w5 own5 gr5 ob5)
      exact ⟨⟨k + 1, by go_num, by omega, by rw [HTK.out]; exact own5, hb2.grown gr5 hsz2 (fun j hj => (own.lt hj).1)⟩, by simp [intOf]; omega⟩
    · have ek : k = nk := by omega
      subst ek
      have hne : ¬ ((k : Int) < k) := by omega
      have htk : ks.take k = ks := by rw [HNK.out, List.take_length]
      rw [htk] at own
      have hm4 : MetK _ g n 1 _ := RowIs.step hm3 hb
      have hown4 := HOWN.out.step hb
      go_wp2_with fail
      refine leaves_cons (f := 78) (args := #[.pointer (some ⟨g, 2, none⟩)]) (by simp) (by simp [go_sem]) ?_
      refine (unlock_deferred muLib ⟨g, 2, none⟩ .returning _ hm4.c2 (RowIs.fz hm4 2)).mono ?_
      rintro e u' w'' ⟨rfl, rfl, rfl⟩
      have hu4 : Upd g wr (wr.setCell ⟨g, 2, none⟩ (.int .i32 0)) := (Upd.refl g wr).put 2 _
      have hm9 : Met (wr.setCell ⟨g, 2, none⟩ (.int .i32 0)) g n true (.slice A0 k c0) := by
        have := RowIs.put hm4 2 (.int .i32 0)
        unfold Met; rw [metC_def]
        simpa using this
      have n8 := MetK.no8 hm4 (by intro b; simp)
      have o1 := hown4.upd hu4 n8 (hown4.ne_row hm4 (metK_no _ _ _))
      have o2 := own.upd hu4 n8 (own.ne_row hm4 (metK_no _ _ _))
      rw [hz3] at o2
      exact ⟨.slice Au k cu, (results_tmp rfl _ _ _).trans rfl, _, rfl, hm9, o1, o2, (hu3.then hb).trans hu4⟩
set_option maxRecDepth 100000 in
theorem count_any (g : Nat) (n : Int) (k : Bool) (v : Value) (w : World) (hm : Met w g n k v) :
    Calls Tryd.prog 36 #[.pointer (some ⟨g, 0, none⟩)] w fun e w' => e = .returned (.int .i64 n) ∧ w' = w := by
  have hc := hm.c0
  clear hm
  go_enter Tryd.func36, Tryd.ntmps36
  go_wp2_with fail
  refine (load_any g n w hc).mono ?_
  rintro e w1 ⟨rfl, rfl⟩
  go_wp2_with fail
  go_ret
  exact ⟨rfl, rfl⟩
end Go.Proofs.YtopmdbmnlflpgaaDoor
