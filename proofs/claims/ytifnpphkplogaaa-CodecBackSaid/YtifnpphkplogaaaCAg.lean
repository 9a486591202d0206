/- CodecAgain: the walk of the statement's function. -/
import Derived.Test.YtifnpphkplogaaaCDec
namespace Go.Proofs.Ytifnpphkplogaaa
open Go.RowKit
theorem getIt_parts (i : InP) (k : Int) : (getIt i k).1.kind = k ∧ (k ≠ 9 → (getIt i k).1.b = []) ∧ (k ≠ 32 → (getIt i k).1.l = []) := by
  unfold getIt
  split
  · exact ⟨rfl, fun h => absurd (by assumption) h, fun _ => rfl⟩
  · split
    · exact ⟨rfl, fun _ => rfl, fun h => absurd (by assumption) h⟩
    · exact ⟨rfl, fun _ => rfl, fun _ => rfl⟩
theorem decIn_parts : ∀ (s : List Int) (i : InP), ∀ x ∈ (decIn s i).1, (x.kind ≠ 9 → x.b = []) ∧ (x.kind ≠ 32 → x.l = [])
  | [], _, x, hx => by simp [decIn] at hx
  | k :: r, i, x, hx => by
    rw [decIn] at hx
    rcases List.mem_cons.1 hx with rfl | hx
    · obtain ⟨h1, h2, h3⟩ := getIt_parts i k
      rw [h1]; exact ⟨h2, h3⟩
    · exact decIn_parts r _ x hx
theorem dec_ok (s : List Int) (b : List UInt8) (h : (decP s b).2 = 0) : ∀ x ∈ (decP s b).1, itSmall x ∧ itKeys x := by
  unfold decP at h ⊢
  by_cases hs : s.all kindOk = true
  · rw [if_pos hs] at h ⊢
    by_cases he : endP (decIn s ⟨b, 0⟩).2 = 0
    · rw [if_pos he]
      have hs' : ∀ k ∈ s, kindOk k = true := by simpa [List.all_eq_true] using hs
      have hq : (decIn s ⟨b, 0⟩).2.e = 0 := by
        unfold endP at he
        split at he
        · simp at he
        · exact he
      obtain ⟨_, _, h3, h5, _⟩ := decIn_inv s ⟨b, 0⟩ hs' hq
      intro x hx
      refine ⟨?_, h5 x hx⟩
      have h6 := h3 x hx
      obtain ⟨p1, p2⟩ := decIn_parts s ⟨b, 0⟩ x hx
      unfold itOk at h6
      by_cases k9 : x.kind = 9
      · rw [if_pos k9] at h6
        exact ⟨by omega, by rw [p2 (by omega)]; simp⟩
      · rw [if_neg k9] at h6
        by_cases k32 : x.kind = 32
        · rw [if_pos k32] at h6
          exact ⟨by rw [p1 k9]; simp, by omega⟩
        · exact ⟨by rw [p1 k9]; simp, by rw [p2 k32]; simp⟩
    · rw [if_neg he] at h; exact absurd h he
  · rw [if_neg hs] at h; simp at h
set_option maxRecDepth 100000 in
set_option maxHeartbeats 1600000 in
theorem codecagain_any (v vb : Value) (s : List Int) (b : List UInt8) (w : World) (h : IntsL w v s) (hvb : Bs w vb b) (h20 : s.length ≤ 20) (h5 : b.length ≤ 5000) :
    Calls Try.prog 6 #[v, vb] w (TrueRes' w) := by
  have D1 := Lib.hid (fun W h hb => decode_any v vb s b W h hb (by omega))
  unfold DecTo at D1
  have hpl := (decP_l s b).2
  have hok := dec_ok s b
  have hag := again_all s b
  have hnil := dec_err_nil s b
  obtain ⟨E, hE⟩ : ∃ E, E = (decP s b).2 := ⟨_, rfl⟩
  obtain ⟨X, hX⟩ : ∃ X, X = (decP s b).1 := ⟨_, rfl⟩
  rw [← hE, ← hX] at D1 hok hag hnil
  rw [← hX] at hpl
  clear hE hX
  have H := Lib.hid h; have HB := Lib.hid hvb
  obtain ⟨A, c, rfl, -⟩ := h
  obtain ⟨Ab, cb, rfl, -⟩ := hvb
  have i1 : ¬ (20 : Int) < s.length := by omega
  have i2 : ¬ (5000 : Int) < b.length := by omega
  by_cases he : E = 0
  · have EN := Lib.hid (fun u W h => encode_any u X W h (by omega) (hok he))
    unfold EncTo at EN
    rw [hag he] at EN
    rw [he] at D1
    clear hok hag hnil he hpl
    go_enter Try.func6, Try.ntmps6
    go_wp2_with fail
    refine (awake9_any _).mono ?_
    rintro e w1 ⟨rfl, b1⟩
    go_wp2_with fail
    refine (D1.out _ (H.out.step b1) (HB.out.step b1)).mono ?_
    rintro e w2 ⟨u1, rfl, hu1, b2⟩
    have hb2 := b1.trans (b2.mono b1.size)
    have y2 := HB.out.step hb2
    go_wp2_with fail
    refine (EN.out _ _ hu1).mono ?_
    rintro e w3 ⟨u2, rfl, hu2, b3⟩
    have y3 := y2.step b3
    have hb3 := hb2.trans (b3.mono hb2.size)
    go_wp2_with fail
    refine (refSame_bs y3 hu2).mono ?_
    rintro e w4 ⟨rfl, b4⟩
    go_wp2_with fail
    go_ret
    exact ⟨by simp, hb3.trans (b4.mono hb3.size)⟩
  · have hX := hnil he
    have f1 : ((E : Int) != 0) = true := by simpa using he
    rw [hX] at D1
    clear hok hag hnil he hpl hX
    go_enter Try.func6, Try.ntmps6
    go_wp2_with fail
    refine (awake9_any _).mono ?_
    rintro e w1 ⟨rfl, b1⟩
    go_wp2_with fail
    refine (D1.out _ (H.out.step b1) (HB.out.step b1)).mono ?_
    rintro e w2 ⟨u1, rfl, hu1, b2⟩
    have hb2 := b1.trans (b2.mono b1.size)
    obtain ⟨Au, cu, rfl, -⟩ := hu1
    go_wp2_with fail
    go_ret
    exact ⟨rfl, hb2⟩
theorem walk_CodecAgain (v : Value) (s : List Int) (Ab : Option Addr) (cb : Nat) (b : List UInt8) (w : World) (h : IntsL w v s) (hc : b.length ≤ cb) (hr : Rd8 w w.heap.size Ab b) :
    Calls Try.prog 6 #[v, .slice Ab b.length cb] w (TrueRes' w) := by
  by_cases h20 : 20 < s.length
  · obtain ⟨A, c, rfl, -⟩ := h
    have i1 : (20 : Int) < s.length := by omega
    go_enter Try.func6, Try.ntmps6
    go_wp2_with fail
    refine (awake9_any _).mono ?_
    rintro e w1 ⟨rfl, b1⟩
    go_wp2_with fail
    go_ret
    exact ⟨rfl, b1⟩
  · by_cases h5 : 5000 < b.length
    · obtain ⟨A, c, rfl, -⟩ := h
      have i1 : ¬ (20 : Int) < s.length := by omega
      have i2 : (5000 : Int) < b.length := by omega
      go_enter Try.func6, Try.ntmps6
      go_wp2_with fail
      refine (awake9_any _).mono ?_
      rintro e w1 ⟨rfl, b1⟩
      go_wp2_with fail
      go_ret
      exact ⟨rfl, b1⟩
    · exact codecagain_any v _ s b w h (Bs.of hc (by omega) hr) (by omega) (by omega)
end Go.Proofs.Ytifnpphkplogaaa
