/- CodecEncodes: the walk of the statement's function; items as an argument. -/
import Derived.Test.YtifnpphkplogaaaAw9
import Derived.Test.YtifnpphkplogaaaItArg
namespace Go.Proofs.Ytifnpphkplogaaa
open Go.RowKit
theorem beq_self_int (a : Int) : (a == a) = true := by simp
set_option maxRecDepth 100000 in
set_option maxHeartbeats 1600000 in
theorem walk_CodecEncodes (v : Value) (xs : List ItP) (w : World) (hr : RawIts w v xs) :
    Calls Try.prog 3 #[v] w (TrueRes' w) := by
  have hk := hr.keys
  cases hs : shortP xs with
  | false =>
    have S := fun W h => shortR_any v xs W h
    rw [hs] at S
    have HS := Lib.hid S
    clear S hs
    go_enter Try.func3, Try.ntmps3
    go_wp2_with fail
    refine (awake9_any _).mono ?_
    rintro e w1 ⟨rfl, b1⟩
    go_wp2_with fail
    refine (HS.out _ (hr.step b1)).mono ?_
    rintro e w2 ⟨rfl, rfl⟩
    go_wp2_with fail
    go_ret
    exact ⟨rfl, b1⟩
  | true =>
    obtain ⟨h20, hsm⟩ := short_small hs
    have hok : ∀ x ∈ xs, itSmall x ∧ itKeys x := fun x hx => ⟨hsm x hx, hk x hx⟩
    have S := fun W h => shortR_any v xs W h
    rw [hs] at S
    have HS := Lib.hid S
    have E1 := Lib.hid (fun W h => encode_any v xs W h h20 hok)
    have E2 := Lib.hid (fun u W h => refencode_any u xs W h h20 hok)
    have DD := Lib.hid (fun W h => doc_any v xs W h (by omega))
    have h := hr.its hsm
    clear S hs hsm hok h20 hk
    go_enter Try.func3, Try.ntmps3
    go_wp2_with fail
    refine (awake9_any _).mono ?_
    rintro e w1 ⟨rfl, b1⟩
    replace h := h.step b1
    go_wp2_with fail
    refine (HS.out _ (hr.step b1)).mono ?_
    rintro e w2 ⟨rfl, rfl⟩
    go_wp2_with fail
    refine (E1.out _ h).mono ?_
    rintro e w3 ⟨u1, rfl, hu1, b3⟩
    replace h := h.step b3
    have hb3 := b1.trans (b3.mono b1.size)
    clear b1 b3
    go_wp2_with fail
    refine (DD.out _ h).mono ?_
    rintro e w4 ⟨u2, rfl, hu2, b4⟩
    replace hu1 := hu1.step b4
    have hb4 := hb3.trans (b4.mono hb3.size)
    clear b4 hb3 h
    go_wp2_with fail
    refine (E2.out _ _ hu2).mono ?_
    rintro e w5 ⟨u3, rfl, hu3, b5⟩
    replace hu1 := hu1.step b5
    have hb5 := hb4.trans (b5.mono hb4.size)
    clear b5 hb4 hu2
    obtain ⟨E, hE⟩ : ∃ E, E = (encP xs).2 := ⟨_, rfl⟩
    rw [← hE]
    have hEE := beq_self_int E
    clear hE
    go_wp2_with fail
    refine (refSame_bs hu1 hu3).mono ?_
    rintro e w6 ⟨rfl, b6⟩
    go_wp2_with fail
    go_ret
    exact ⟨by simp, hb5.trans (b6.mono hb5.size)⟩
end Go.Proofs.Ytifnpphkplogaaa
