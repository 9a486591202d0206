/- Layer 11, its law's own: two devices apart; whether the law is awake. -/
import Derived.Test.YtbfloejpgjheiaaDev7
namespace Go.Proofs.Ytbfloejpgjheiaa
open Go.RowKit
def Sep (L M : DL) : Prop := ∀ k, L.has k → ¬ M.has k
theorem Sep.symm {L M : DL} (h : Sep L M) : Sep M L := fun k hk hl => h k hl hk
theorem DevTo.sep {L L' M : DL} {d' m : Dv} {w w' : World} (h : DevTo L L' d' w w') (hs : Sep L M) (hM : Dev w M m) : Sep L' M ∧ Dev w' M m :=
  ⟨fun k hk hm => by
    rcases h.has k hk with h1 | h1
    · exact hs k h1 hm
    · have := hM.lt hm; omega, hM.upx h.upx fun k hk hl => hs k hl hk⟩
theorem Sep.new {L M : DL} {m : Dv} {w : World} (hM : Dev w M m) (h : ∀ k, L.has k → w.heap.size ≤ k) : Sep L M := fun k hk hm => by
  have := hM.lt hm; have := h k hk; omega
theorem write_lit (L : DL) (d : Dv) (i : Int) (b : List UInt8) (t : TypeId) (vs : Array Value) (w : World) (h : Dev w L d) (hvs : vs = u8s b) (hpl : d.pend.length ≤ 100000) :
    Calls Try.prog 14 #[.pointer (some ⟨L.g, 0, none⟩), .int .i64 i, .slice (some ⟨w.heap.size, 0, none⟩) b.length b.length] (w.alloc (.cells vs t)) fun e w' => e = .returned (.int .i64 (d.errW i b)) ∧ ∃ L', DevTo L L' (d.write i b) w w' := by
  subst hvs
  have hb : Below w.heap.size w (w.alloc (.cells (u8s b) t)) := (by repeat (first | with_reducible exact Below.refl _ _ | with_reducible assumption | refine Below.drew ?_ | refine below_drewN ?_ | refine Below.alloc ?_ (by first | omega | (simp; done) | (simp; omega)) _ | refine below_setRow ?_ (by omega) _ | refine Below.setCell ?_ (by first | omega | (simp; done) | (simp; omega)) _))
  have hR := RowIs.new w (u8s b) t
  refine (write_any L d i (some ⟨w.heap.size, 0, none⟩) b.length b _ (h.step hb) (Nat.le_refl _) hR.rd (fun _ g o e hk => ?_) hpl).mono ?_
  · injection e with e
    injection e with e
    have := h.lt hk
    omega
  · rintro e w' ⟨he, L', ht⟩
    exact ⟨he, L', ht.g, ht.dev, (Upx.of hb).trans' ht.upx (fun _ _ h => h), fun k hk => by
      rcases ht.has k hk with h1 | h1
      · exact .inl h1
      · right; have := hb.size; omega⟩
theorem crash_lit (L : DL) (d : Dv) (ks : List Bool) (t : TypeId) (vs : Array Value) (w : World) (h : Dev w L d) (hvs : vs = (ks.map Value.bool).toArray) (hpl : d.pend.length ≤ 1000000) :
    Calls Try.prog 12 #[.pointer (some ⟨L.g, 0, none⟩), .slice (some ⟨w.heap.size, 0, none⟩) ks.length ks.length] (w.alloc (.cells vs t)) fun e w' => e = .returned (.tuple #[]) ∧ ∃ L', DevTo L L' (d.crash ks) w w' := by
  subst hvs
  have hb : Below w.heap.size w (w.alloc (.cells (ks.map Value.bool).toArray t)) := (by repeat (first | with_reducible exact Below.refl _ _ | with_reducible assumption | refine Below.drew ?_ | refine below_drewN ?_ | refine Below.alloc ?_ (by first | omega | (simp; done) | (simp; omega)) _ | refine below_setRow ?_ (by omega) _ | refine Below.setCell ?_ (by first | omega | (simp; done) | (simp; omega)) _))
  have hR := RowIs.new w (ks.map Value.bool).toArray t
  refine (crash_any L d (some ⟨w.heap.size, 0, none⟩) ks.length ks _ (h.step hb) (Nat.le_refl _) (fun h0 => ⟨w.heap.size, 0, rfl, hR.lt, fun j hj => ?_⟩) (fun _ g o e hk => ?_) hpl).mono ?_
  · obtain ⟨t', ht⟩ := hR.row.heap
    rw [hR.has] at ht
    rw [cell_of_row _ _ _ _ t' (0, 0) ht]
    simp [List.getD, hj]
  · injection e with e
    injection e with e
    have := h.lt hk
    omega
  · rintro e w' ⟨he, L', ht⟩
    exact ⟨he, L', ht.g, ht.dev, (Upx.of hb).trans' ht.upx (fun _ _ h => h), fun k hk => by
      rcases ht.has k hk with h1 | h1
      · exact .inl h1
      · right; have := hb.size; omega⟩
theorem crash_nil (L : DL) (d : Dv) (w : World) (h : Dev w L d) (hpl : d.pend.length ≤ 1000000) :
    Calls Try.prog 12 #[.pointer (some ⟨L.g, 0, none⟩), .slice none 0 0] w (CrashRes L d [] w) := crash_any L d none 0 [] w h (Nat.le_refl _) (RdB.nil _ _ _) (fun h => by simp at h) hpl
set_option maxRecDepth 100000 in
theorem peek_any (L : DL) (d : Dv) (i : Nat) (w : World) (h : Dev w L d) (hi : i < d.n) : Calls Try.prog 28 #[.pointer (some ⟨L.g, 0, none⟩), .int .i64 i] w (BsRes w ((sect d.seen i).take 2)) := by
  go_enter Try.func28, Try.ntmps28
  go_wp2_with fail
  refine (read_any L d i w h).mono ?_
  rintro e w1 ⟨-, hR⟩
  obtain ⟨v1, rfl, hbs, hb1, -⟩ := hR (by omega) (by omega)
  have hl : (sect d.seen i).length = 256 := sect_length _ _ _ h.ok.seen hi
  rw [Int.toNat_natCast] at hbs
  obtain ⟨A, c, rfl, hc, hm, hr⟩ := hbs
  rw [hl] at hc ⊢
  have hT := (Bs.of' (n := 256) hl hc (by omega) hr).take 2 (by omega)
  have hc1 : ¬ (c : Int) < 2 := by omega
  have HT := Lib.hid hT
  have HB := Lib.hid hb1
  clear hl hm hr hT hb1 hR
  go_wp2_with fail
  go_ret
  exact ⟨_, rfl, HT.out, HB.out⟩
end Go.Proofs.Ytbfloejpgjheiaa
