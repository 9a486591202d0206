/- Layer 26: bytes held against each other, and the closure that does it. -/
import Derived.Test.YtlfplikkifjnfaaFacts
import Derived.Test.YtlfplikkifjnfaaOwn
import Derived.Test.YtlfplikkifjnfaaLexS
import Derived.Test.YtlfplikkifjnfaaLexT
import Derived.Test.YtlfplikkifjnfaaAppBs
import Derived.Laws.BytesArg
import Derived.Laws.Strings
namespace Go.Proofs.Ytlfplikkifjnfaa
open Go.RowKit
theorem strOf_u8 (l : List UInt8) : strOfNums (l.map n8) = ⟨l.toArray⟩ := by
  unfold strOfNums
  congr 2
  rw [List.map_map]
  conv => rhs; rw [← List.map_id l]
  apply List.map_congr_left
  intro u _
  simp only [Function.comp, n8_def, id]
  apply UInt8.toNat_inj.1
  rw [UInt8.toNat_ofNat']
  have := u.toNat_lt
  omega
theorem conv_str {w : World} {v : Value} {l : List UInt8} (h : Bs w v l) : (convert 34 9 v).run Try.prog w = .ok (.string ⟨l.toArray⟩) w := by
  obtain ⟨A, c, rfl, h1, h2, h3⟩ := h
  by_cases h0 : 0 < l.length
  · obtain ⟨g, o, rfl, hg, hc⟩ := h3 h0
    rw [run_convert_bytes_arg w 34 5 Try.underlying34 Try.underlying5 g o l.length c (l.map n8) (by simp) (fun i hi => by
      rw [hc i hi, at8_get l i hi]; simp [List.getD, hi]) 9 Try.underlying9, strOf_u8]
  · obtain rfl : l = [] := List.eq_nil_of_length_eq_zero (by omega)
    cases A with
    | none => exact run_convert_bytes_nil w 34 5 Try.underlying34 Try.underlying5 _ c 9 Try.underlying9
    | some a =>
      obtain ⟨g, o, sp⟩ := a
      rw [run_convert_bytes_string w _ _ _ _ _ c Try.underlying34 Try.underlying5 Try.underlying9, run_bytesToString w ⟨g, o, sp⟩ _ c [] (by simp [loadCells, loadCellsFrom])]
      rfl
theorem str_inj {l m : List UInt8} (h : (⟨l.toArray⟩ : ByteArray) = ⟨m.toArray⟩) : l = m := by
  have := congrArg (fun b : ByteArray => b.data.toList) h
  simpa using this
set_option maxRecDepth 100000 in
theorem equal_bs {w : World} {a b : Value} {l m : List UInt8} (ha : Bs w a l) (hb : Bs w b m) : Calls Try.prog 24 #[a, b] w fun e w' => e = .returned (.bool (decide (l = m))) ∧ w = w' := by
  have h1 := conv_str ha
  have h2 := conv_str hb
  by_cases h : l = m
  · subst h
    clear ha hb
    go_enter Try.func24, Try.ntmps24
    go_wp2_with fail
    go_ret
    exact ⟨by simp, rfl⟩
  · clear ha hb
    obtain ⟨S1, hS1⟩ : ∃ S : ByteArray, S = ⟨l.toArray⟩ := ⟨_, rfl⟩
    obtain ⟨S2, hS2⟩ : ∃ S : ByteArray, S = ⟨m.toArray⟩ := ⟨_, rfl⟩
    have hne : ¬ S1.toList = S2.toList := by rw [hS1, hS2, ByteArray.toList_mk, ByteArray.toList_mk]; exact h
    rw [← hS1] at h1; rw [← hS2] at h2
    have H := Lib.hid h
    clear h hS1 hS2
    go_enter Try.func24, Try.ntmps24
    go_wp2_with fail
    go_ret
    exact ⟨by simp [H.out]; exact hne, rfl⟩
end Go.Proofs.Ytlfplikkifjnfaa
