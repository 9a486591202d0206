/- Layer 10, the plain law: frames and bundles, their bytes, and what comes of bytes. | Layer 10: a frame as a value; what is wrong with one. | Layer 10: what is wrong with a frame, whole; whether one is played. | Layer 10: slices of three and of four keys; what is signed of a frame. | Layer 10: what is signed of a frame, written into an Out. | Layer 10: a frame's core and a frame's bytes, by the program. | Layer 10: a frame's core and a frame's bytes, by the document. -/
import Derived.Test.YtifnpphkplogaaaCodL
import Derived.Test.YtifnpphkplogaaaDecW
import Derived.Test.YtifnpphkplogaaaPart
import Derived.Test.YtifnpphkplogaaaEncW
namespace Go.Proofs.Ytifnpphkplogaaa
section
section
open Go.RowKit
/-! ### reading up to limits of one's own -/
def getM (i : InP) (k m : Int) : ItP × InP :=
  if k = 9 then (⟨k, 0, (ibytesP i m).1, []⟩, (ibytesP i m).2) else if k = 32 then (⟨k, 0, [], (ikeysP i m).1⟩, (ikeysP i m).2) else (⟨k, (inumP i k).1, [], []⟩, (inumP i k).2)
def decM : List (Int × Int) → InP → List ItP × InP
  | [], i => ([], i)
  | k :: r, i => ((getM i k.1 k.2).1 :: (decM r (getM i k.1 k.2).2).1, (decM r (getM i k.1 k.2).2).2)
def itLim (x : ItP) (m : Int) : Prop := (x.kind = 9 → (x.b.length : Int) ≤ m) ∧ (x.kind = 32 → (x.l.length : Int) ≤ m)
def okM (p : ItP × Int) : Prop := itOk p.1 ∧ itKeys p.1 ∧ itLim p.1 p.2
theorem getM_err {i : InP} (h : i.e ≠ 0) (k m : Int) : (getM i k m).2 = i := by
  unfold getM
  split
  · unfold ibytesP; rw [ilimP_err h]; exact congrArg Prod.snd (takeP_err h _)
  · split
    · unfold ikeysP; rw [ilimP_err h]; exact congrArg Prod.snd (takeP_err h _)
    · exact inumP_err h k
theorem decM_err : ∀ (s : List (Int × Int)) {i : InP}, i.e ≠ 0 → (decM s i).2 = i
  | [], _, _ => rfl
  | k :: r, i, h => by rw [decM, getM_err h]; exact decM_err r h
theorem getM_ok (x : ItP) (m : Int) (H : okM (x, m)) (r : List UInt8) : getM ⟨itB x ++ r, 0⟩ x.kind m = (itN x, ⟨r, 0⟩) := by
  obtain ⟨h, hk, hm9, hm32⟩ : itOk x ∧ itKeys x ∧ (x.kind = 9 → (x.b.length : Int) ≤ m) ∧ (x.kind = 32 → (x.l.length : Int) ≤ m) := H
  unfold itOk at h; unfold getM itB itN
  by_cases h9 : x.kind = 9
  · have := hm9 h9
    simp only [h9, if_true] at h ⊢
    unfold ibytesP
    rw [List.append_assoc, ilimP_ok _ _ _ _ (by omega) h, takeP_ok _ _ _ rfl]
  · by_cases h32 : x.kind = 32
    · have := hm32 h32
      simp only [h32] at h ⊢
      have h' : x.l.length ≤ 100 := by simpa using h
      unfold ikeysP
      have hl := flat32 x.l hk
      simp only [show ¬ ((32 : Int) = 9) by omega, if_false, if_true]
      rw [List.append_assoc, ilimP_ok _ _ _ _ (by omega) (by omega), takeP_ok _ _ _ hl]
      simp only [hl]
      rw [show 32 * x.l.length / 32 = x.l.length by omega, cutK_back x.l hk]
    · simp only [h9, h32, if_false] at h ⊢
      rw [inumP_ok _ _ r h.1 h.2]
theorem decM_ok : ∀ (l : List (ItP × Int)) (r : List UInt8), (∀ x ∈ l, okM x) → decM (l.map fun p => (p.1.kind, p.2)) ⟨(l.map fun p => itB p.1).flatten ++ r, 0⟩ = (l.map fun p => itN p.1, ⟨r, 0⟩)
  | [], r, _ => by simp [decM]
  | x :: t, r, h => by
    rw [List.map_cons, decM, List.map_cons, List.flatten_cons, List.append_assoc, getM_ok x.1 x.2 (h x (by simp)), decM_ok t r (fun y hy => h y (by simp [hy])), List.map_cons]
theorem getM_short (x : ItP) (m : Int) (H : okM (x, m)) (a : List UInt8) (ha : ∃ r, itB x = a ++ r ∧ r ≠ []) : (getM ⟨a, 0⟩ x.kind m).2 = ⟨[], 3⟩ := by
  obtain ⟨h, hk, hm9, hm32⟩ : itOk x ∧ itKeys x ∧ (x.kind = 9 → (x.b.length : Int) ≤ m) ∧ (x.kind = 32 → (x.l.length : Int) ≤ m) := H
  obtain ⟨r, hr, hne⟩ := ha
  have hrl : 0 < r.length := List.length_pos_iff.2 hne
  unfold itOk at h; unfold itB at hr; unfold getM
  have key : ∀ (n : Nat) (body : List UInt8) (most lim : Int), (n : Int) ≤ min most lim → n ≤ 4000 → highX (UInt64.ofNat n) 2 ++ body = a ++ r → ∀ m, body.length = m → ilimP ⟨a, 0⟩ most lim = (0, ⟨[], 3⟩) ∨ ∃ s, ilimP ⟨a, 0⟩ most lim = (n, ⟨s, 0⟩) ∧ s.length < m := by
    intro n body most lim h1 h2 h3 m hm
    by_cases h4 : a.length < 2
    · exact .inl (ilimP_short a most lim h4 (by omega))
    · refine .inr ⟨a.drop 2, ?_, ?_⟩
      · have e : a = highX (UInt64.ofNat n) 2 ++ a.drop 2 := by
          have e1 := congrArg (List.take 2) h3
          rw [List.take_append_of_le_length (by rw [len2]; omega), List.take_append_of_le_length (by omega), List.take_of_length_le (by rw [len2]; omega)] at e1
          rw [e1, List.take_append_drop]
        have := ilimP_ok n most lim (a.drop 2) h1 h2
        rw [← e] at this
        exact this
      · have := congrArg List.length h3
        rw [List.length_append, List.length_append, len2] at this
        rw [List.length_drop]; omega
  by_cases h9 : x.kind = 9
  · have h9m := hm9 h9
    simp only [h9, if_true] at h hr ⊢
    unfold ibytesP
    rcases key _ _ m 4000 (by omega) h hr _ rfl with e | ⟨s, e, hs⟩
    · rw [e]; exact congrArg Prod.snd (takeP_err (by simp) 0)
    · rw [e]; exact congrArg Prod.snd (takeP_short s _ hs)
  · by_cases h32 : x.kind = 32
    · have h32m := hm32 h32
      simp only [h32] at h hr ⊢
      have h' : x.l.length ≤ 100 := by simpa using h
      have hr' : highX (UInt64.ofNat x.l.length) 2 ++ x.l.flatten = a ++ r := by simpa using hr
      unfold ikeysP
      simp only [show ¬ ((32 : Int) = 9) by omega, if_false, if_true]
      have hl := flat32 x.l hk
      rcases key _ _ m 100 (by omega) (by omega) hr' _ hl with e | ⟨s, e, hs⟩
      · rw [e]; exact congrArg Prod.snd (takeP_err (by simp) _)
      · rw [e]; exact congrArg Prod.snd (takeP_short s _ hs)
    · simp only [h9, h32, if_false] at h hr ⊢
      have hk' := h.1
      unfold sizeOk at hk'; rw [decide_eq_true_eq] at hk'
      obtain ⟨m, hm⟩ : ∃ m : Nat, x.kind = m := ⟨x.kind.toNat, by omega⟩
      have h1 := h.1
      rw [hm] at hr h1 ⊢
      have := congrArg List.length hr
      rw [highX_len _ m (by omega), List.length_append] at this
      exact (inumP_short a m h1 (by omega)).1
theorem decM_short : ∀ (l : List (ItP × Int)) (left : Nat), (∀ x ∈ l, okM x) → left < (l.map fun p => itB p.1).flatten.length → (decM (l.map fun p => (p.1.kind, p.2)) ⟨(l.map fun p => itB p.1).flatten.take left, 0⟩).2 = ⟨[], 3⟩
  | [], left, _, h => by simp at h
  | x :: t, left, h, hl => by
    rw [List.map_cons, List.flatten_cons, List.length_append] at hl
    rw [List.map_cons, decM, List.map_cons, List.flatten_cons]
    by_cases h1 : left < (itB x.1).length
    · have e : (getM ⟨(itB x.1 ++ (t.map fun p => itB p.1).flatten).take left, 0⟩ x.1.kind x.2).2 = ⟨[], 3⟩ := by
        rw [List.take_append_of_le_length (by omega)]
        refine getM_short x.1 x.2 (h x (by simp)) _ ⟨(itB x.1).drop left, (List.take_append_drop _ _).symm, fun e => ?_⟩
        have := congrArg List.length e
        rw [List.length_drop] at this; simp at this; omega
      simp only [e]
      exact decM_err _ (by simp)
    · have e : (itB x.1 ++ (t.map fun p => itB p.1).flatten).take left = itB x.1 ++ (t.map fun p => itB p.1).flatten.take (left - (itB x.1).length) := by
        rw [List.take_append, List.take_of_length_le (by omega)]
      simp only [e, getM_ok x.1 x.2 (h x (by simp))]
      exact decM_short t _ (fun y hy => h y (by simp [hy])) (by omega)
theorem getM_inv {i : InP} {k m : Int} (h : (getM i k m).2.e = 0) : i.e = 0 ∧ (getM i k m).1.kind = k ∧ okM ((getM i k m).1, m) ∧ i.b = itB (getM i k m).1 ++ (getM i k m).2.b := by
  unfold getM at h ⊢
  by_cases h9 : k = 9
  · rw [if_pos h9] at h ⊢
    unfold ibytesP at h ⊢
    obtain ⟨h1, h2, h3⟩ := takeP_inv h
    obtain ⟨h4, h5, h6⟩ := ilimP_inv h1
    rw [h3]
    have hl : (List.take (ilimP i m 4000).fst (ilimP i m 4000).snd.b).length = (ilimP i m 4000).fst := by rw [List.length_take]; omega
    refine ⟨h4, rfl, ⟨?_, fun x hx => by simp at hx, fun _ => ?_, fun h32 => ?_⟩, ?_⟩
    · unfold itOk; simp only [h9, if_true]; rw [hl]; omega
    · rw [hl]; omega
    · exact absurd (h9.symm.trans h32) (by decide)
    · unfold itB; simp only [h9, if_true]
      rw [hl, List.append_assoc, List.take_append_drop]; exact h5
  · rw [if_neg h9] at h ⊢
    by_cases h32 : k = 32
    · rw [if_pos h32] at h ⊢
      unfold ikeysP at h ⊢
      obtain ⟨h1, h2, h3⟩ := takeP_inv h
      obtain ⟨h4, h5, h6⟩ := ilimP_inv h1
      simp only [h3]
      have hl : (List.take (32 * (ilimP i m 100).fst) (ilimP i m 100).snd.b).length = 32 * (ilimP i m 100).fst := by rw [List.length_take]; omega
      have hq : 32 * (ilimP i m 100).fst / 32 = (ilimP i m 100).fst := by omega
      refine ⟨h4, by simp, ⟨?_, fun x hx => ?_, fun h9' => absurd h9' h9, fun _ => ?_⟩, ?_⟩
      · unfold itOk; simp only [h32, show ¬ ((32 : Int) = 9) by omega, if_false, if_true]; rw [cutK_length, hl, hq]; omega
      · exact cutK_all _ _ (by rw [hl]; omega) x hx
      · show ((cutK _ _).length : Int) ≤ m
        rw [cutK_length, hl, hq]; omega
      · unfold itB; simp only [h32, show ¬ ((32 : Int) = 9) by omega, if_false, if_true]
        rw [cutK_length, hl, hq, cutK_full _ _ hl, List.append_assoc, List.take_append_drop]; exact h5
    · rw [if_neg h32] at h ⊢
      obtain ⟨h1, h2, h3, h4⟩ := inumP_inv h
      refine ⟨h1, rfl, ⟨?_, fun x hx => by simp at hx, fun e => absurd e h9, fun e => absurd e h32⟩, ?_⟩
      · unfold itOk; simp only [h9, h32, if_false]; exact ⟨h2, h4⟩
      · unfold itB; simp only [h9, h32, if_false]; exact h3
theorem decM_inv : ∀ (s : List (Int × Int)) (i : InP), (decM s i).2.e = 0 → i.e = 0 ∧ i.b = ((decM s i).1.map itB).flatten ++ (decM s i).2.b ∧ ∀ x ∈ (decM s i).1, itOk x ∧ itKeys x
  | [], i, h => by simp [decM] at h ⊢; exact h
  | k :: r, i, h => by
    rw [decM] at h ⊢
    obtain ⟨h1, h4, h5⟩ := decM_inv r (getM i k.1 k.2).2 h
    obtain ⟨g1, g2, g3, g4⟩ := getM_inv h1
    refine ⟨g1, ?_, fun x hx => ?_⟩
    · simp only [List.map_cons, List.flatten_cons]
      rw [g4, List.append_assoc, ← h4]
    · rcases List.mem_cons.1 hx with rfl | hx
      · exact ⟨g3.1, g3.2.1⟩
      · exact h5 x hx
/-! ### frames -/
structure FrP where
  idx : Nat
  ack : Nat
  eph : List UInt8
  epo : List UInt8
  nxt : List UInt8
  box : List UInt8
  sign : BLs
abbrev z32 : List UInt8 := List.replicate 32 0
def FrP.zero : FrP := ⟨0, 0, z32, z32, z32, [], []⟩
structure FrP.WF (f : FrP) : Prop where
  idx : f.idx < 4294967296
  ack : f.ack < 4294967296
  eph : f.eph.length = 32
  epo : f.epo.length = 32
  nxt : f.nxt.length = 32
  sign : ∀ k ∈ f.sign, k.length = 32
def shapeP (f : FrP) : Int := if f.idx < 1 ∨ 1000 < f.idx ∨ 1000 < f.ack then 51 else if f.box.length < 64 then 3 else if 264 < f.box.length then 2 else 0
def checkP (f : FrP) : Int := if shapeP f = 0 ∧ f.sign.length ≠ 67 then 40 else shapeP f
def numI (k : Int) (n : Nat) : ItP := ⟨k, UInt64.ofNat n, [], []⟩
def keysI (l : BLs) : ItP := ⟨32, 0, [], l⟩
def byteI (b : List UInt8) : ItP := ⟨9, 0, b, []⟩
def coreI (f : FrP) : List (ItP × Int) := [(numI 1 1, 0), (numI 4 f.idx, 0), (numI 4 f.ack, 0), (keysI [f.eph, f.epo, f.nxt], 3), (byteI f.box, 264)]
def frI (f : FrP) : List (ItP × Int) := coreI f ++ [(keysI f.sign, 67)]
def bytesI (l : List (ItP × Int)) : List UInt8 := (l.map fun p => itB p.1).flatten
def coreB (f : FrP) : List UInt8 := bytesI (coreI f)
def coreP (f : FrP) : List UInt8 × Int := if shapeP f = 0 then (coreB f, 0) else ([], shapeP f)
def encFP (f : FrP) : List UInt8 × Int := if checkP f = 0 then (bytesI (frI f), 0) else ([], checkP f)
def rd1 (b : List UInt8) := inumP ⟨b, 0⟩ 1
def rd2 (b : List UInt8) := inumP (rd1 b).2 4
def rd3 (b : List UInt8) := inumP (rd2 b).2 4
def rd4 (b : List UInt8) := ikeysP (rd3 b).2 3
def rd5 (b : List UInt8) := ibytesP (rd4 b).2 264
def rd6 (b : List UInt8) := ikeysP (rd5 b).2 67
def keyAt (l : BLs) (k : Nat) : List UInt8 := (l[k]?).getD z32
/-- the frame that was read, three keys given -/
def rdF (b : List UInt8) : FrP := ⟨(rd2 b).1.toNat % 4294967296, (rd3 b).1.toNat % 4294967296, keyAt (rd4 b).1 0, keyAt (rd4 b).1 1, keyAt (rd4 b).1 2, (rd5 b).1, (rd6 b).1⟩
def decFP (b : List UInt8) : FrP × Int :=
  if 8000 < b.length then (.zero, 2) else if endP (rd6 b).2 ≠ 0 then (.zero, endP (rd6 b).2)
  else if (rd1 b).1 ≠ 1 ∨ (rd4 b).1.length ≠ 3 then (.zero, 51) else if checkP (rdF b) ≠ 0 then (.zero, checkP (rdF b)) else (rdF b, 0)
def frS : List (Int × Int) := [(1, 0), (4, 0), (4, 0), (32, 3), (9, 264), (32, 67)]
theorem decM_fr (b : List UInt8) : decM frS ⟨b, 0⟩ = ([⟨1, (rd1 b).1, [], []⟩, ⟨4, (rd2 b).1, [], []⟩, ⟨4, (rd3 b).1, [], []⟩, keysI (rd4 b).1, byteI (rd5 b).1, keysI (rd6 b).1], (rd6 b).2) := by
  simp [frS, decM, getM, rd1, rd2, rd3, rd4, rd5, rd6, keysI, byteI]
theorem frI_kinds (f : FrP) : (frI f).map (fun p => (p.1.kind, p.2)) = frS := rfl
theorem shape_0 {f : FrP} (h : shapeP f = 0) : 1 ≤ f.idx ∧ f.idx ≤ 1000 ∧ f.ack ≤ 1000 ∧ 64 ≤ f.box.length ∧ f.box.length ≤ 264 := by
  unfold shapeP at h
  split at h
  · exact absurd h (by decide)
  · split at h
    · exact absurd h (by decide)
    · split at h
      · exact absurd h (by decide)
      · omega
theorem check_0 {f : FrP} (h : checkP f = 0) : shapeP f = 0 ∧ f.sign.length = 67 := by
  unfold checkP at h
  split at h
  · exact absurd h (by decide)
  · rename_i h1
    refine ⟨h, ?_⟩
    by_cases h2 : f.sign.length = 67
    · exact h2
    · exact absurd ⟨h, h2⟩ h1
theorem numI_ok {k : Int} {n : Nat} (m : Int) (hk : k = 1 ∨ k = 4) (h : n < 2 ^ (8 * k.toNat)) : okM (numI k n, m) := by
  have h9 : k ≠ 9 := by omega
  have h32 : k ≠ 32 := by omega
  refine ⟨?_, fun x hx => by simp [numI] at hx, fun e => absurd e h9, fun e => absurd e h32⟩
  unfold itOk numI
  simp only [h9, h32, if_false]
  have hs : sizeOk k = true := by unfold sizeOk; rw [decide_eq_true_eq]; omega
  refine ⟨hs, ?_⟩
  unfold fitsN
  rw [decide_eq_true_eq, UInt64.toNat_ofNat']
  exact Nat.lt_of_le_of_lt (Nat.mod_le _ _) h
theorem core_ok {f : FrP} (hw : f.WF) (h : shapeP f = 0) : ∀ x ∈ coreI f, okM x := by
  obtain ⟨h1, h2, h3, h4, h5⟩ := shape_0 h
  intro x hx
  simp only [coreI, List.mem_cons, List.not_mem_nil, or_false] at hx
  rcases hx with rfl | rfl | rfl | rfl | rfl
  · exact numI_ok _ (.inl rfl) (by decide)
  · exact numI_ok _ (.inr rfl) hw.idx
  · exact numI_ok _ (.inr rfl) hw.ack
  · refine ⟨by simp [itOk, keysI], fun k hk => ?_, fun e => by simp [keysI] at e, fun _ => by simp [keysI]⟩
    simp only [keysI, List.mem_cons, List.not_mem_nil, or_false] at hk
    rcases hk with rfl | rfl | rfl
    · exact hw.eph
    · exact hw.epo
    · exact hw.nxt
  · exact ⟨by simp [itOk, byteI]; omega, fun k hk => by simp [byteI] at hk, fun _ => by simp only [byteI]; omega, fun e => by simp [byteI] at e⟩
theorem fr_ok {f : FrP} (hw : f.WF) (h : checkP f = 0) : ∀ x ∈ frI f, okM x := by
  obtain ⟨h1, h2⟩ := check_0 h
  intro x hx
  rw [frI, List.mem_append] at hx
  rcases hx with hx | hx
  · exact core_ok hw h1 x hx
  · obtain rfl : x = _ := by simpa using hx
    exact ⟨by simp [itOk, keysI, h2], fun k hk => hw.sign k hk, fun e => by simp [keysI] at e, fun _ => by simp only [keysI]; omega⟩
theorem itB_num (k : Int) (n : Nat) (h : k = 1 ∨ k = 4) : (itB (numI k n)).length = k.toNat := by
  have h9 : k ≠ 9 := by omega
  have h32 : k ≠ 32 := by omega
  unfold itB numI
  simp only [h9, h32, if_false]
  rcases h with rfl | rfl
  · exact highX_len _ 1 (by omega)
  · exact highX_len _ 4 (by omega)
theorem itB_keys (l : BLs) (h : ∀ k ∈ l, k.length = 32) : (itB (keysI l)).length = 2 + 32 * l.length := by
  unfold itB keysI
  simp only [show ¬ ((32 : Int) = 9) by omega, if_false, if_true]
  rw [List.length_append, len2, flat32 l h]
theorem itB_byte (b : List UInt8) : (itB (byteI b)).length = 2 + b.length := by
  unfold itB byteI
  simp only [if_true]
  rw [List.length_append, len2]
theorem core_len {f : FrP} (hw : f.WF) : (coreB f).length = 109 + f.box.length := by
  have h3 : ∀ k ∈ [f.eph, f.epo, f.nxt], k.length = 32 := by
    intro k hk
    simp only [List.mem_cons, List.not_mem_nil, or_false] at hk
    rcases hk with rfl | rfl | rfl
    · exact hw.eph
    · exact hw.epo
    · exact hw.nxt
  have := itB_keys _ h3
  unfold coreB bytesI coreI
  simp only [List.map_cons, List.map_nil, List.flatten_cons, List.flatten_nil, List.length_append, List.length_nil, itB_num 1 1 (.inl rfl), itB_num 4 _ (.inr rfl), itB_byte, this]
  simp only [List.length_cons, List.length_nil]
  omega
theorem fr_split (f : FrP) : bytesI (frI f) = coreB f ++ itB (keysI f.sign) := by
  unfold frI coreB bytesI
  rw [List.map_append, List.flatten_append]
  simp
theorem fr_len {f : FrP} (hw : f.WF) : (bytesI (frI f)).length = 111 + f.box.length + 32 * f.sign.length := by
  rw [fr_split, List.length_append, core_len hw, itB_keys _ hw.sign]; omega
theorem rd_fr {f : FrP} (hw : f.WF) (h : checkP f = 0) (r : List UInt8) : (rd1 (bytesI (frI f) ++ r)).1 = 1 ∧ (rd4 (bytesI (frI f) ++ r)).1.length = 3 ∧ rdF (bytesI (frI f) ++ r) = f ∧ (rd6 (bytesI (frI f) ++ r)).2 = ⟨r, 0⟩ := by
  have h1 := decM_ok (frI f) r (fr_ok hw h)
  rw [frI_kinds] at h1
  obtain ⟨B, hB⟩ : ∃ B, B = bytesI (frI f) ++ r := ⟨_, rfl⟩
  replace h1 : decM frS ⟨B, 0⟩ = ((frI f).map fun p => itN p.1, ⟨r, 0⟩) := by rw [hB]; exact h1
  have h3 := (decM_fr B).symm.trans h1
  rw [← hB]
  have h4 := congrArg Prod.snd h3
  have h5 := congrArg Prod.fst h3
  simp only [frI, coreI, List.cons_append, List.nil_append, List.map_cons, List.map_nil, List.cons.injEq, itN, numI, keysI, byteI] at h5
  obtain ⟨e1, e2, e3, e4, e5, e6, -⟩ := h5
  simp at e1 e2 e3 e4 e5 e6
  refine ⟨e1, by rw [e4]; rfl, ?_, h4⟩
  have i1 := hw.idx
  have i2 := hw.ack
  unfold rdF
  rw [e2, e3, e4, e5, e6, UInt64.toNat_ofNat', UInt64.toNat_ofNat', show f.idx % 2 ^ 64 % 4294967296 = f.idx by omega, show f.ack % 2 ^ 64 % 4294967296 = f.ack by omega]
  rfl
/-- what is sent arrives; with a byte more, or cut short, it is none -/
theorem fr_back {f : FrP} (hw : f.WF) (h : checkP f = 0) : decFP (bytesI (frI f)) = (f, 0) ∧ (decFP (bytesI (frI f) ++ [0])).2 = 50 ∧ ∀ left, left < (bytesI (frI f)).length → (decFP ((bytesI (frI f)).take left)).2 = 3 := by
  obtain ⟨h1, h2⟩ := check_0 h
  obtain ⟨-, -, -, -, hb⟩ := shape_0 h1
  have hl := fr_len hw
  refine ⟨?_, ?_, fun left hlt => ?_⟩
  · obtain ⟨a1, a2, a3, a4⟩ := rd_fr hw h []
    rw [List.append_nil] at a1 a2 a3 a4
    unfold decFP
    rw [if_neg (by omega), a4, a3, a1, a2, h]
    simp [endP]
  · obtain ⟨a1, a2, a3, a4⟩ := rd_fr hw h [0]
    unfold decFP
    rw [List.length_append, if_neg (by simp only [List.length_singleton]; omega), a4]
    simp [endP]
  · have := decM_short (frI f) left (fr_ok hw h) hlt
    rw [frI_kinds, show ((frI f).map fun p => itB p.1).flatten = bytesI (frI f) from rfl, decM_fr] at this
    have this : (rd6 ((bytesI (frI f)).take left)).2 = ⟨[], 3⟩ := this
    unfold decFP
    rw [List.length_take, if_neg (by omega), this]
    simp [endP]
theorem decF_0 {b : List UInt8} (h : (decFP b).2 = 0) : endP (rd6 b).2 = 0 ∧ (rd1 b).1 = 1 ∧ (rd4 b).1.length = 3 ∧ checkP (rdF b) = 0 ∧ decFP b = (rdF b, 0) ∧ b.length ≤ 8000 := by
  unfold decFP at h ⊢
  split at h
  · exact absurd h (by decide)
  · split at h
    · exact absurd h (by assumption)
    · split at h
      · exact absurd h (by decide)
      · split at h
        · exact absurd h (by assumption)
        · rename_i h1 h2 h3 h4
          have h2' := Decidable.not_not.1 h2
          have h4' := Decidable.not_not.1 h4
          refine ⟨h2', ?_, ?_, h4', ?_, by omega⟩
          · by_cases e : (rd1 b).1 = 1
            · exact e
            · exact absurd (.inl e) h3
          · by_cases e : (rd4 b).1.length = 3
            · exact e
            · exact absurd (.inr e) h3
          · rw [if_neg h1, if_neg h2, if_neg h3, if_neg h4]
theorem end_0 {i : InP} (h : endP i = 0) : i.e = 0 ∧ i.b = [] := by
  unfold endP at h
  split at h
  · exact absurd h (by decide)
  · rename_i h1
    refine ⟨h, ?_⟩
    by_cases e : i.b = []
    · exact e
    · exact absurd ⟨h, e⟩ h1
theorem bl3 {l : BLs} (h : l.length = 3) : l = [keyAt l 0, keyAt l 1, keyAt l 2] := by
  match l, h with
  | [a, b, c], _ => rfl
theorem fits4 {n : UInt64} (h : fitsN n 4 = true) : n.toNat < 4294967296 := by
  unfold fitsN at h; rw [decide_eq_true_eq] at h; exact h
/-- what is read is written -/
theorem fr_again {b : List UInt8} (h : (decFP b).2 = 0) : (rdF b).WF ∧ encFP (rdF b) = (b, 0) := by
  obtain ⟨h1, h2, h3, h4, -, -⟩ := decF_0 h
  obtain ⟨h5, h6⟩ := end_0 h1
  have hd := decM_fr b
  obtain ⟨-, h7, h8⟩ := decM_inv frS ⟨b, 0⟩ (by rw [hd]; exact h5)
  rw [hd] at h7 h8
  have n2 := (h8 ⟨4, (rd2 b).1, [], []⟩ (by simp)).1
  have n3 := (h8 ⟨4, (rd3 b).1, [], []⟩ (by simp)).1
  have k4 := (h8 (keysI (rd4 b).1) (by simp)).2
  have k6 := (h8 (keysI (rd6 b).1) (by simp)).2
  have f2 := fits4 (show fitsN (rd2 b).1 4 = true by simpa [itOk] using n2.2)
  have f3 := fits4 (show fitsN (rd3 b).1 4 = true by simpa [itOk] using n3.2)
  have hl := bl3 h3
  have hk4 : ∀ k ∈ (rd4 b).1, k.length = 32 := k4
  rw [hl] at hk4
  refine ⟨⟨?_, ?_, hk4 (keyAt (rd4 b).1 0) (by simp), hk4 (keyAt (rd4 b).1 1) (by simp), hk4 (keyAt (rd4 b).1 2) (by simp), k6⟩, ?_⟩
  · show (rd2 b).1.toNat % 4294967296 < 4294967296; omega
  · show (rd3 b).1.toNat % 4294967296 < 4294967296; omega
  · unfold encFP
    rw [if_pos h4]
    refine Prod.ext ?_ rfl
    show bytesI (frI (rdF b)) = b
    have e2 : UInt64.ofNat ((rd2 b).1.toNat % 4294967296) = (rd2 b).1 := by rw [Nat.mod_eq_of_lt f2]; simp
    have e3 : UInt64.ofNat ((rd3 b).1.toNat % 4294967296) = (rd3 b).1 := by rw [Nat.mod_eq_of_lt f3]; simp
    have hx : ∀ x, (x : List UInt8) = b → x = b := fun _ h => h
    have h7' : b = _ ++ (rd6 b).2.b := h7
    rw [h6, List.append_nil] at h7'
    refine Eq.trans ?_ h7'.symm
    unfold bytesI
    congr 1
    simp only [frI, coreI, List.cons_append, List.nil_append, List.map_cons, List.map_nil, rdF]
    rw [← hl]
    simp only [numI, e2, e3, h2]
    rfl
theorem enc_inj {f g : FrP} (hf : f.WF) (hg : g.WF) (cf : checkP f = 0) (cg : checkP g = 0) (h : bytesI (frI f) = bytesI (frI g)) : f = g := by
  have h1 := (fr_back hf cf).1
  rw [h, (fr_back hg cg).1] at h1
  exact (congrArg Prod.fst h1).symm
theorem core_sign (f : FrP) (s : BLs) : coreB { f with sign := s } = coreB f := rfl
theorem core_inj {f g : FrP} (hf : f.WF) (hg : g.WF) (cf : checkP f = 0) (cg : checkP g = 0) (h : coreB f = coreB g) : f = { g with sign := f.sign } := by
  have hs := (check_0 cf).2
  have h' : FrP.WF { g with sign := f.sign } := ⟨hg.idx, hg.ack, hg.eph, hg.epo, hg.nxt, hf.sign⟩
  have c' : checkP { g with sign := f.sign } = 0 := by
    have e : shapeP { g with sign := f.sign } = shapeP g := rfl
    unfold checkP
    rw [e, (check_0 cg).1, if_neg (fun e => e.2 hs)]
  refine enc_inj hf h' cf c' ?_
  rw [fr_split, fr_split, core_sign, h]
  rfl
/-! ### bundles -/
structure BuP where
  chain : List UInt8
  epo : List UInt8
  sign : List UInt8
  noise : List UInt8
def BuP.zero : BuP := ⟨z32, z32, z32, z32⟩
structure BuP.WF (x : BuP) : Prop where
  chain : x.chain.length = 32
  epo : x.epo.length = 32
  sign : x.sign.length = 32
  noise : x.noise.length = 32
def buI (x : BuP) : List (ItP × Int) := [(numI 1 2, 0), (keysI [x.chain, x.epo, x.sign, x.noise], 4)]
def encBP (x : BuP) : List UInt8 := bytesI (buI x)
def rdB (b : List UInt8) := ikeysP (rd1 b).2 4
def rdBu (b : List UInt8) : BuP := ⟨keyAt (rdB b).1 0, keyAt (rdB b).1 1, keyAt (rdB b).1 2, keyAt (rdB b).1 3⟩
def decBP (b : List UInt8) : BuP × Int := if endP (rdB b).2 ≠ 0 then (.zero, endP (rdB b).2) else if (rd1 b).1 ≠ 2 ∨ (rdB b).1.length ≠ 4 then (.zero, 51) else (rdBu b, 0)
def buS : List (Int × Int) := [(1, 0), (32, 4)]
theorem decM_bu (b : List UInt8) : decM buS ⟨b, 0⟩ = ([⟨1, (rd1 b).1, [], []⟩, keysI (rdB b).1], (rdB b).2) := by
  simp [buS, decM, getM, rd1, rdB, keysI]
theorem bu_keys {x : BuP} (hw : x.WF) : ∀ k ∈ [x.chain, x.epo, x.sign, x.noise], k.length = 32 := by
  intro k hk
  simp only [List.mem_cons, List.not_mem_nil, or_false] at hk
  rcases hk with rfl | rfl | rfl | rfl
  · exact hw.chain
  · exact hw.epo
  · exact hw.sign
  · exact hw.noise
theorem bu_ok {x : BuP} (hw : x.WF) : ∀ y ∈ buI x, okM y := by
  intro y hy
  simp only [buI, List.mem_cons, List.not_mem_nil, or_false] at hy
  rcases hy with rfl | rfl
  · exact numI_ok _ (.inl rfl) (by decide)
  · exact ⟨by simp [itOk, keysI], bu_keys hw, fun e => by simp [keysI] at e, fun _ => by simp [keysI]⟩
theorem bu_len {x : BuP} (hw : x.WF) : (encBP x).length = 131 := by
  have := itB_keys _ (bu_keys hw)
  unfold encBP bytesI buI
  simp only [List.map_cons, List.map_nil, List.flatten_cons, List.flatten_nil, List.length_append, List.length_nil, itB_num 1 2 (.inl rfl), this]
  simp
theorem rd_bu {x : BuP} (hw : x.WF) (r : List UInt8) : (rd1 (encBP x ++ r)).1 = 2 ∧ (rdB (encBP x ++ r)).1.length = 4 ∧ rdBu (encBP x ++ r) = x ∧ (rdB (encBP x ++ r)).2 = ⟨r, 0⟩ := by
  have h1 := decM_ok (buI x) r (bu_ok hw)
  obtain ⟨B, hB⟩ : ∃ B, B = encBP x ++ r := ⟨_, rfl⟩
  replace h1 : decM buS ⟨B, 0⟩ = ((buI x).map fun p => itN p.1, ⟨r, 0⟩) := by rw [hB]; exact h1
  have h3 := (decM_bu B).symm.trans h1
  rw [← hB]
  have h4 := congrArg Prod.snd h3
  have h5 := congrArg Prod.fst h3
  simp only [buI, List.map_cons, List.map_nil, List.cons.injEq, itN, numI, keysI] at h5
  obtain ⟨e1, e2, -⟩ := h5
  simp at e1 e2
  refine ⟨e1, by rw [e2]; rfl, ?_, h4⟩
  unfold rdBu
  rw [e2]
  rfl
theorem bu_back {x : BuP} (hw : x.WF) : decBP (encBP x) = (x, 0) ∧ (decBP (encBP x ++ [0])).2 = 50 ∧ ∀ left, left < (encBP x).length → (decBP ((encBP x).take left)).2 = 3 := by
  refine ⟨?_, ?_, fun left hlt => ?_⟩
  · obtain ⟨a1, a2, a3, a4⟩ := rd_bu hw []
    rw [List.append_nil] at a1 a2 a3 a4
    unfold decBP
    rw [a4, a3, a1, a2]
    simp [endP]
  · obtain ⟨a1, a2, a3, a4⟩ := rd_bu hw [0]
    unfold decBP
    rw [a4]
    simp [endP]
  · have := decM_short (buI x) left (bu_ok hw) hlt
    rw [show ((buI x).map fun p => itB p.1).flatten = encBP x from rfl, show (buI x).map (fun p => (p.1.kind, p.2)) = buS from rfl, decM_bu] at this
    have this : (rdB ((encBP x).take left)).2 = ⟨[], 3⟩ := this
    unfold decBP
    rw [this]
    simp [endP]
theorem decB_0 {b : List UInt8} (h : (decBP b).2 = 0) : endP (rdB b).2 = 0 ∧ (rd1 b).1 = 2 ∧ (rdB b).1.length = 4 ∧ decBP b = (rdBu b, 0) := by
  unfold decBP at h ⊢
  split at h
  · exact absurd h (by assumption)
  · split at h
    · exact absurd h (by decide)
    · rename_i h2 h3
      refine ⟨Decidable.not_not.1 h2, ?_, ?_, ?_⟩
      · by_cases e : (rd1 b).1 = 2
        · exact e
        · exact absurd (.inl e) h3
      · by_cases e : (rdB b).1.length = 4
        · exact e
        · exact absurd (.inr e) h3
      · rw [if_neg h2, if_neg h3]
theorem bl4 {l : BLs} (h : l.length = 4) : l = [keyAt l 0, keyAt l 1, keyAt l 2, keyAt l 3] := by
  match l, h with
  | [a, b, c, d], _ => rfl
theorem bu_again {b : List UInt8} (h : (decBP b).2 = 0) : (rdBu b).WF ∧ encBP (rdBu b) = b := by
  obtain ⟨h1, h2, h3, -⟩ := decB_0 h
  obtain ⟨h5, h6⟩ := end_0 h1
  have hd := decM_bu b
  obtain ⟨-, h7, h8⟩ := decM_inv buS ⟨b, 0⟩ (by rw [hd]; exact h5)
  rw [hd] at h7 h8
  have k4 : ∀ k ∈ (rdB b).1, k.length = 32 := (h8 (keysI (rdB b).1) (by simp)).2
  have hl := bl4 h3
  rw [hl] at k4
  refine ⟨⟨k4 (keyAt (rdB b).1 0) (by simp), k4 (keyAt (rdB b).1 1) (by simp), k4 (keyAt (rdB b).1 2) (by simp), k4 (keyAt (rdB b).1 3) (by simp)⟩, ?_⟩
  have h7' : b = _ ++ (rdB b).2.b := h7
  rw [h6, List.append_nil] at h7'
  refine Eq.trans ?_ h7'.symm
  unfold encBP bytesI
  congr 1
  simp only [buI, List.map_cons, List.map_nil, rdBu]
  rw [← hl]
  simp only [numI, h2]
  rfl
theorem bu_inj {x y : BuP} (hx : x.WF) (hy : y.WF) (h : encBP x = encBP y) : x = y := by
  have h1 := (bu_back hx).1
  rw [h, (bu_back hy).1] at h1
  exact (congrArg Prod.fst h1).symm
/-- a frame's bytes are no bundle, and a bundle's are no frame -/
theorem not_both {b : List UInt8} (h : (decFP b).2 = 0) (h' : (decBP b).2 = 0) : False := by
  have h1 := (decF_0 h).2.1
  rw [(decB_0 h').2.1] at h1
  exact absurd h1 (by decide)
end
end
section
section
open Go.RowKit
/-- a frame's cells -/
def frL (f : FrP) (vb vs : Value) : List Value := .int .u32 f.idx :: .int .u32 f.ack :: (u8v f.eph ++ (u8v f.epo ++ (u8v f.nxt ++ [vb, vs])))
@[irreducible] def frC (f : FrP) (vb vs : Value) : Array Value := (frL f vb vs).toArray
theorem frC_def (f : FrP) (vb vs : Value) : frC f vb vs = (frL f vb vs).toArray := by unfold frC; rfl
theorem frL_len {f : FrP} (hw : f.WF) (vb vs : Value) : (frL f vb vs).length = 100 := by
  unfold frL
  simp only [List.length_cons, List.length_append, u8v_length, hw.eph, hw.epo, hw.nxt, List.length_nil]
theorem frC_size {f : FrP} (hw : f.WF) (vb vs : Value) : (frC f vb vs).size = 100 := by rw [frC_def, List.size_toArray]; exact frL_len hw vb vs
theorem fr_at {w : World} {g : Nat} {f : FrP} {vb vs : Value} (h : RowIs w g (frC f vb vs)) (j : Nat) (v : Value) (hv : (frL f vb vs)[j]? = some v) : w.cell? ⟨g, j, none⟩ = some v := by
  rw [frC_def] at h
  have := h.range j 1 0 v
  rw [List.getElem?_take_of_lt (by omega), List.getElem?_drop] at this
  simpa using this (by simpa using hv)
theorem frL_tail {f : FrP} (hw : f.WF) (vb vs : Value) (j : Nat) : (frL f vb vs)[98 + j]? = [vb, vs][j]? := by
  unfold frL
  rw [show 98 + j = (96 + j) + 1 + 1 by omega, List.getElem?_cons_succ, List.getElem?_cons_succ, List.getElem?_append_right (by rw [u8v_length, hw.eph]; omega), u8v_length, hw.eph,
    List.getElem?_append_right (by rw [u8v_length, hw.epo]; omega), u8v_length, hw.epo, List.getElem?_append_right (by rw [u8v_length, hw.nxt]; omega), u8v_length, hw.nxt]
  congr 1; omega
theorem fr_cells {w : World} {g : Nat} {f : FrP} {vb vs : Value} (h : RowIs w g (frC f vb vs)) (hw : f.WF) :
    w.cell? ⟨g, 0, none⟩ = some (.int .u32 f.idx) ∧ w.cell? ⟨g, 1, none⟩ = some (.int .u32 f.ack) ∧ w.cell? ⟨g, 98, none⟩ = some vb ∧ w.cell? ⟨g, 99, none⟩ = some vs :=
  ⟨fr_at h 0 _ rfl, fr_at h 1 _ rfl, fr_at h 98 _ (frL_tail hw vb vs 0), fr_at h 99 _ (frL_tail hw vb vs 1)⟩
/-- a frame as a value -/
def FrV (w : World) (f : FrP) (v : Value) : Prop := ∃ vb vs, v = .agg (frC f vb vs) ∧ f.WF ∧ Bs w vb f.box ∧ KsL w vs f.sign
theorem FrV.step {w w' : World} {f : FrP} {v : Value} (h : FrV w f v) (hb : Below w.heap.size w w') : FrV w' f v := by
  obtain ⟨vb, vs, h1, h2, h3, h4⟩ := h
  exact ⟨vb, vs, h1, h2, h3.step hb, h4.step hb⟩
def NumTo (k : Int) (w : World) (e : Ending) (w' : World) : Prop := e = .returned (.int .i64 k) ∧ Below w.heap.size w w'
theorem shape_cases (f : FrP) : (f.idx < 1 ∧ shapeP f = 51) ∨ (1 ≤ f.idx ∧ 1000 < f.idx ∧ shapeP f = 51) ∨ (1 ≤ f.idx ∧ f.idx ≤ 1000 ∧ 1000 < f.ack ∧ shapeP f = 51) ∨
    (1 ≤ f.idx ∧ f.idx ≤ 1000 ∧ f.ack ≤ 1000 ∧ f.box.length < 64 ∧ shapeP f = 3) ∨ (1 ≤ f.idx ∧ f.idx ≤ 1000 ∧ f.ack ≤ 1000 ∧ 64 ≤ f.box.length ∧ 264 < f.box.length ∧ shapeP f = 2) ∨
    (1 ≤ f.idx ∧ f.idx ≤ 1000 ∧ f.ack ≤ 1000 ∧ 64 ≤ f.box.length ∧ f.box.length ≤ 264 ∧ shapeP f = 0) := by
  unfold shapeP
  by_cases h1 : f.idx < 1
  · exact .inl ⟨h1, if_pos (.inl h1)⟩
  · by_cases h2 : 1000 < f.idx
    · exact .inr (.inl ⟨by omega, h2, if_pos (.inr (.inl h2))⟩)
    · by_cases h3 : 1000 < f.ack
      · exact .inr (.inr (.inl ⟨by omega, by omega, h3, if_pos (.inr (.inr h3))⟩))
      · have hn : ¬ (f.idx < 1 ∨ 1000 < f.idx ∨ 1000 < f.ack) := by omega
        rw [if_neg hn]
        by_cases h4 : f.box.length < 64
        · exact .inr (.inr (.inr (.inl ⟨by omega, by omega, by omega, h4, if_pos h4⟩)))
        · rw [if_neg h4]
          by_cases h5 : 264 < f.box.length
          · exact .inr (.inr (.inr (.inr (.inl ⟨by omega, by omega, by omega, by omega, h5, if_pos h5⟩))))
          · exact .inr (.inr (.inr (.inr (.inr ⟨by omega, by omega, by omega, by omega, by omega, if_neg h5⟩))))
set_option maxRecDepth 100000 in
set_option maxHeartbeats 3200000 in
theorem shape_any (f : FrP) (v : Value) (w : World) (h : FrV w f v) : Calls Try.prog 83 #[v] w (NumTo (shapeP f) w) := by
  obtain ⟨vb, vs, rfl, hw, hb, hs⟩ := h
  obtain ⟨A, c, rfl, -⟩ := id hb
  have R : RowIs (w.alloc (.cells (frC f (.slice A f.box.length c) vs) 80)) w.heap.size (frC f (.slice A f.box.length c) vs) := RowIs.new _ _ _
  obtain ⟨c0, c1, c5, c6⟩ := fr_cells R hw
  have B : Below w.heap.size w (w.alloc (.cells (frC f (.slice A f.box.length c) vs) 80)) := (by repeat (first | with_reducible exact Below.refl _ _ | with_reducible assumption | refine Below.drew ?_ | refine below_drewN ?_ | refine Below.alloc ?_ (by first | omega | (simp; done) | (simp; omega)) _ | refine below_setRow ?_ (by omega) _ | refine Below.setCell ?_ (by first | omega | (simp; done) | (simp; omega)) _))
  unfold NumTo
  rcases shape_cases f with ⟨h1, e⟩ | ⟨h1, h2, e⟩ | ⟨h1, h2, h3, e⟩ | ⟨h1, h2, h3, h4, e⟩ | ⟨h1, h2, h3, h4, h5, e⟩ | ⟨h1, h2, h3, h4, h5, e⟩
  · have g1 : (f.idx : Int) < 1 := by omega
    have g0 : ((f.idx : Int) == (0 : Int)) = true := by rw [beq_iff_eq]; omega
    rw [e]; clear e
    go_enter Try.func83, Try.ntmps83
    go_wp2_with fail
    go_ret
    exact ⟨rfl, B⟩
  · have g1 : ¬ (f.idx : Int) < 1 := by omega
    have g0 : ((f.idx : Int) == (0 : Int)) = false := by rw [beq_eq_false_iff_ne]; omega
    have g2 : (1000 : Int) < (f.idx : Int) := by omega
    rw [e]; clear e h1
    go_enter Try.func83, Try.ntmps83
    go_wp2_with fail
    go_ret
    exact ⟨rfl, B⟩
  · have g1 : ¬ (f.idx : Int) < 1 := by omega
    have g0 : ((f.idx : Int) == (0 : Int)) = false := by rw [beq_eq_false_iff_ne]; omega
    have g2 : ¬ (1000 : Int) < (f.idx : Int) := by omega
    have g3 : (1000 : Int) < (f.ack : Int) := by omega
    rw [e]; clear e h1
    go_enter Try.func83, Try.ntmps83
    go_wp2_with fail
    go_ret
    exact ⟨rfl, B⟩
  · have g1 : ¬ (f.idx : Int) < 1 := by omega
    have g0 : ((f.idx : Int) == (0 : Int)) = false := by rw [beq_eq_false_iff_ne]; omega
    have g2 : ¬ (1000 : Int) < (f.idx : Int) := by omega
    have g3 : ¬ (1000 : Int) < (f.ack : Int) := by omega
    have g4 : (f.box.length : Int) < (64 : Int) := by omega
    rw [e]; clear e h1
    go_enter Try.func83, Try.ntmps83
    go_wp2_with fail
    go_ret
    exact ⟨rfl, B⟩
  · have g1 : ¬ (f.idx : Int) < 1 := by omega
    have g0 : ((f.idx : Int) == (0 : Int)) = false := by rw [beq_eq_false_iff_ne]; omega
    have g2 : ¬ (1000 : Int) < (f.idx : Int) := by omega
    have g3 : ¬ (1000 : Int) < (f.ack : Int) := by omega
    have g4 : ¬ (f.box.length : Int) < (64 : Int) := by omega
    have g5 : (264 : Int) < (f.box.length : Int) := by omega
    rw [e]; clear e h1
    go_enter Try.func83, Try.ntmps83
    go_wp2_with fail
    go_ret
    exact ⟨rfl, B⟩
  · have g1 : ¬ (f.idx : Int) < 1 := by omega
    have g0 : ((f.idx : Int) == (0 : Int)) = false := by rw [beq_eq_false_iff_ne]; omega
    have g2 : ¬ (1000 : Int) < (f.idx : Int) := by omega
    have g3 : ¬ (1000 : Int) < (f.ack : Int) := by omega
    have g4 : ¬ (f.box.length : Int) < (64 : Int) := by omega
    have g5 : ¬ (264 : Int) < (f.box.length : Int) := by omega
    rw [e]; clear e h1
    go_enter Try.func83, Try.ntmps83
    go_wp2_with fail
    go_ret
    exact ⟨rfl, B⟩
set_option maxRecDepth 100000 in
set_option maxHeartbeats 3200000 in
theorem refshape_any (f : FrP) (v : Value) (w : World) (h : FrV w f v) : Calls Try.prog 85 #[v] w (NumTo (shapeP f) w) := by
  obtain ⟨vb, vs, rfl, hw, hb, hs⟩ := h
  obtain ⟨A, c, rfl, -⟩ := id hb
  have R : RowIs (w.alloc (.cells (frC f (.slice A f.box.length c) vs) 80)) w.heap.size (frC f (.slice A f.box.length c) vs) := RowIs.new _ _ _
  obtain ⟨c0, c1, c5, c6⟩ := fr_cells R hw
  have B : Below w.heap.size w (w.alloc (.cells (frC f (.slice A f.box.length c) vs) 80)) := (by repeat (first | with_reducible exact Below.refl _ _ | with_reducible assumption | refine Below.drew ?_ | refine below_drewN ?_ | refine Below.alloc ?_ (by first | omega | (simp; done) | (simp; omega)) _ | refine below_setRow ?_ (by omega) _ | refine Below.setCell ?_ (by first | omega | (simp; done) | (simp; omega)) _))
  unfold NumTo
  rcases shape_cases f with ⟨h1, e⟩ | ⟨h1, h2, e⟩ | ⟨h1, h2, h3, e⟩ | ⟨h1, h2, h3, h4, e⟩ | ⟨h1, h2, h3, h4, h5, e⟩ | ⟨h1, h2, h3, h4, h5, e⟩
  · have g1 : (f.idx : Int) < 1 := by omega
    have g0 : ((f.idx : Int) == (0 : Int)) = true := by rw [beq_iff_eq]; omega
    rw [e]; clear e
    go_enter Try.func85, Try.ntmps85
    go_wp2_with fail
    go_ret
    exact ⟨rfl, B⟩
  · have g1 : ¬ (f.idx : Int) < 1 := by omega
    have g0 : ((f.idx : Int) == (0 : Int)) = false := by rw [beq_eq_false_iff_ne]; omega
    have g2 : (1000 : Int) < (f.idx : Int) := by omega
    rw [e]; clear e h1
    go_enter Try.func85, Try.ntmps85
    go_wp2_with fail
    go_ret
    exact ⟨rfl, B⟩
  · have g1 : ¬ (f.idx : Int) < 1 := by omega
    have g0 : ((f.idx : Int) == (0 : Int)) = false := by rw [beq_eq_false_iff_ne]; omega
    have g2 : ¬ (1000 : Int) < (f.idx : Int) := by omega
    have g3 : (1000 : Int) < (f.ack : Int) := by omega
    rw [e]; clear e h1
    go_enter Try.func85, Try.ntmps85
    go_wp2_with fail
    go_ret
    exact ⟨rfl, B⟩
  · have g1 : ¬ (f.idx : Int) < 1 := by omega
    have g0 : ((f.idx : Int) == (0 : Int)) = false := by rw [beq_eq_false_iff_ne]; omega
    have g2 : ¬ (1000 : Int) < (f.idx : Int) := by omega
    have g3 : ¬ (1000 : Int) < (f.ack : Int) := by omega
    have g4 : (f.box.length : Int) < (64 : Int) := by omega
    rw [e]; clear e h1
    go_enter Try.func85, Try.ntmps85
    go_wp2_with fail
    go_ret
    exact ⟨rfl, B⟩
  · have g1 : ¬ (f.idx : Int) < 1 := by omega
    have g0 : ((f.idx : Int) == (0 : Int)) = false := by rw [beq_eq_false_iff_ne]; omega
    have g2 : ¬ (1000 : Int) < (f.idx : Int) := by omega
    have g3 : ¬ (1000 : Int) < (f.ack : Int) := by omega
    have g4 : ¬ (f.box.length : Int) < (64 : Int) := by omega
    have g5 : (264 : Int) < (f.box.length : Int) := by omega
    rw [e]; clear e h1
    go_enter Try.func85, Try.ntmps85
    go_wp2_with fail
    go_ret
    exact ⟨rfl, B⟩
  · have g1 : ¬ (f.idx : Int) < 1 := by omega
    have g0 : ((f.idx : Int) == (0 : Int)) = false := by rw [beq_eq_false_iff_ne]; omega
    have g2 : ¬ (1000 : Int) < (f.idx : Int) := by omega
    have g3 : ¬ (1000 : Int) < (f.ack : Int) := by omega
    have g4 : ¬ (f.box.length : Int) < (64 : Int) := by omega
    have g5 : ¬ (264 : Int) < (f.box.length : Int) := by omega
    rw [e]; clear e h1
    go_enter Try.func85, Try.ntmps85
    go_wp2_with fail
    go_ret
    exact ⟨rfl, B⟩
end
end
section
section
open Go.RowKit
theorem xfrLoad (ev : Operand → Value) (d : Option Tmp) (x : Operand) (ty : TypeId) (p : String) (af : Array Edge) (g : Option (Nat × Bool)) :
    execOp ev ⟨d, .load 80 x, ty, p, af, g⟩ = loadAgg 80 (ev x) := exec_loadAgg ev d _ x ty p af g
attribute [go_sem ↓] xfrLoad
theorem frload {w : World} {g : Nat} {f : FrP} {vb vs : Value} (hr : RowIs w g (frC f vb vs)) (hw : f.WF) : (loadAgg 80 (.pointer (some ⟨g, 0, none⟩))).run Try.prog w = .ok (.value (.agg (frC f vb vs))) w := by
  have := run_loadAgg (P := Try.prog) 100 80 (by omega) (by kernel_rfl) (by kernel_rfl) w g (by rw [hr.has, frC_size hw])
  rw [hr.has] at this; exact this
theorem check_sign {f : FrP} (h : shapeP f = 0) (hs : f.sign.length ≠ 67) : checkP f = 40 := by unfold checkP; rw [if_pos ⟨h, hs⟩]
theorem check_good {f : FrP} (h : shapeP f = 0) (hs : f.sign.length = 67) : checkP f = 0 := by unfold checkP; rw [if_neg (fun e => e.2 hs)]; exact h
theorem check_shape {f : FrP} (h : shapeP f ≠ 0) : checkP f = shapeP f := by unfold checkP; rw [if_neg (fun e => h e.1)]
set_option maxRecDepth 100000 in
set_option maxHeartbeats 3200000 in
theorem check_any (f : FrP) (v : Value) (w : World) (h : FrV w f v) : Calls Try.prog 46 #[v] w (NumTo (checkP f) w) := by
  obtain ⟨vb, vs, rfl, hw, hb, hs⟩ := id h
  obtain ⟨A, c, rfl, -⟩ := id hb
  obtain ⟨A2, c2, rfl, -⟩ := id hs
  have B : Below w.heap.size w (w.alloc (.cells (frC f (.slice A f.box.length c) (.slice A2 f.sign.length c2)) 80)) := (by repeat (first | with_reducible exact Below.refl _ _ | with_reducible assumption | refine Below.drew ?_ | refine below_drewN ?_ | refine Below.alloc ?_ (by first | omega | (simp; done) | (simp; omega)) _ | refine below_setRow ?_ (by omega) _ | refine Below.setCell ?_ (by first | omega | (simp; done) | (simp; omega)) _))
  have R : RowIs (w.alloc (.cells (frC f (.slice A f.box.length c) (.slice A2 f.sign.length c2)) 80)) w.heap.size (frC f (.slice A f.box.length c) (.slice A2 f.sign.length c2)) := RowIs.new _ _ _
  have L := frload R hw
  have S := shape_any f _ _ (h.step B)
  have Z := R.lt
  have R0 := R
  clear h hb hs
  have HS := Lib.hid S
  clear S
  go_enter Try.func46, Try.ntmps46
  go_wp2_with fail
  refine HS.out.mono ?_
  rintro e w2 ⟨rfl, b2⟩
  obtain ⟨c0, c1, c5, c6⟩ := fr_cells (R.below b2 Z) hw
  have B2 := B.trans (b2.mono B.size)
  unfold NumTo
  by_cases h0 : shapeP f = 0
  · by_cases h67 : f.sign.length = 67
    · have ck := Lib.hid (check_good h0 h67)
      rw [h0]
      have g1 : ((f.sign.length : Int) != (67 : Int)) = false := by rw [h67]; rfl
      clear h0 h67
      go_wp2_with fail
      go_ret
      exact ⟨by rw [ck.out]; rfl, B2⟩
    · have ck := Lib.hid (check_sign h0 h67)
      rw [h0]
      have g1 : ((f.sign.length : Int) != (67 : Int)) = true := by rw [bne_iff_ne]; omega
      clear h0 h67
      go_wp2_with fail
      go_ret
      exact ⟨by rw [ck.out]; rfl, B2⟩
  · have ck := Lib.hid (check_shape h0)
    have g1 : (shapeP f == (0 : Int)) = false := by rw [beq_eq_false_iff_ne]; exact h0
    have g2 : (shapeP f != (0 : Int)) = true := by rw [bne_iff_ne]; exact h0
    clear h0
    go_wp2_with fail
    go_ret
    exact ⟨by rw [ck.out]; rfl, B2⟩
set_option maxRecDepth 100000 in
set_option maxHeartbeats 3200000 in
theorem refcheck_any (f : FrP) (v : Value) (w : World) (h : FrV w f v) : Calls Try.prog 51 #[v] w (NumTo (checkP f) w) := by
  obtain ⟨vb, vs, rfl, hw, hb, hs⟩ := id h
  obtain ⟨A, c, rfl, -⟩ := id hb
  obtain ⟨A2, c2, rfl, -⟩ := id hs
  have B : Below w.heap.size w (w.alloc (.cells (frC f (.slice A f.box.length c) (.slice A2 f.sign.length c2)) 80)) := (by repeat (first | with_reducible exact Below.refl _ _ | with_reducible assumption | refine Below.drew ?_ | refine below_drewN ?_ | refine Below.alloc ?_ (by first | omega | (simp; done) | (simp; omega)) _ | refine below_setRow ?_ (by omega) _ | refine Below.setCell ?_ (by first | omega | (simp; done) | (simp; omega)) _))
  have R : RowIs (w.alloc (.cells (frC f (.slice A f.box.length c) (.slice A2 f.sign.length c2)) 80)) w.heap.size (frC f (.slice A f.box.length c) (.slice A2 f.sign.length c2)) := RowIs.new _ _ _
  have L := frload R hw
  have S := refshape_any f _ _ (h.step B)
  have Z := R.lt
  have R0 := R
  clear h hb hs
  have HS := Lib.hid S
  clear S
  go_enter Try.func51, Try.ntmps51
  go_wp2_with fail
  refine HS.out.mono ?_
  rintro e w2 ⟨rfl, b2⟩
  obtain ⟨c0, c1, c5, c6⟩ := fr_cells (R.below b2 Z) hw
  have B2 := B.trans (b2.mono B.size)
  unfold NumTo
  by_cases h0 : shapeP f = 0
  · by_cases h67 : f.sign.length = 67
    · have ck := Lib.hid (check_good h0 h67)
      rw [h0]
      have g1 : ((f.sign.length : Int) != (67 : Int)) = false := by rw [h67]; rfl
      clear h0 h67
      go_wp2_with fail
      go_ret
      exact ⟨by rw [ck.out]; rfl, B2⟩
    · have ck := Lib.hid (check_sign h0 h67)
      rw [h0]
      have g1 : ((f.sign.length : Int) != (67 : Int)) = true := by rw [bne_iff_ne]; omega
      clear h0 h67
      go_wp2_with fail
      go_ret
      exact ⟨by rw [ck.out]; rfl, B2⟩
  · have ck := Lib.hid (check_shape h0)
    have g1 : (shapeP f == (0 : Int)) = false := by rw [beq_eq_false_iff_ne]; exact h0
    have g2 : (shapeP f != (0 : Int)) = true := by rw [bne_iff_ne]; exact h0
    clear h0
    go_wp2_with fail
    go_ret
    exact ⟨by rw [ck.out]; rfl, B2⟩
/-- is a frame one that is played? -/
def shortF (f : FrP) : Bool := decide (f.box.length ≤ 400) && decide (f.sign.length ≤ 110)
/-- a frame as a value, of which no byte is known yet -/
def RawFr (w : World) (f : FrP) (v : Value) : Prop := ∃ A c A2 c2, v = .agg (frC f (.slice A f.box.length c) (.slice A2 f.sign.length c2)) ∧ f.WF ∧ f.box.length ≤ c ∧ Rd8 w w.heap.size A f.box ∧ KsL w (.slice A2 f.sign.length c2) f.sign
theorem RawFr.step {w w' : World} {f : FrP} {v : Value} (h : RawFr w f v) (hb : Below w.heap.size w w') : RawFr w' f v := by
  obtain ⟨A, c, A2, c2, h1, h2, h3, h4, h5⟩ := h
  exact ⟨A, c, A2, c2, h1, h2, h3, h4.step hb, h5.step hb⟩
theorem RawFr.fr {w : World} {f : FrP} {v : Value} (h : RawFr w f v) (hs : shortF f = true) : FrV w f v := by
  obtain ⟨A, c, A2, c2, h1, h2, h3, h4, h5⟩ := h
  unfold shortF at hs
  rw [Bool.and_eq_true, decide_eq_true_eq, decide_eq_true_eq] at hs
  exact ⟨_, _, h1, h2, ⟨A, c, rfl, h3, by omega, h4⟩, h5⟩
set_option maxRecDepth 100000 in
set_option maxHeartbeats 3200000 in
theorem shortF_any (f : FrP) (v : Value) (w : World) (h : RawFr w f v) : Calls Try.prog 45 #[v] w (fun e w' => e = .returned (.bool (shortF f)) ∧ Below w.heap.size w w') := by
  obtain ⟨A, c, A2, c2, rfl, hw, hb, hr, hs⟩ := h
  have B : Below w.heap.size w (w.alloc (.cells (frC f (.slice A f.box.length c) (.slice A2 f.sign.length c2)) 80)) := (by repeat (first | with_reducible exact Below.refl _ _ | with_reducible assumption | refine Below.drew ?_ | refine below_drewN ?_ | refine Below.alloc ?_ (by first | omega | (simp; done) | (simp; omega)) _ | refine below_setRow ?_ (by omega) _ | refine Below.setCell ?_ (by first | omega | (simp; done) | (simp; omega)) _))
  have R : RowIs (w.alloc (.cells (frC f (.slice A f.box.length c) (.slice A2 f.sign.length c2)) 80)) w.heap.size (frC f (.slice A f.box.length c) (.slice A2 f.sign.length c2)) := RowIs.new _ _ _
  obtain ⟨c0, c1, c5, c6⟩ := fr_cells R hw
  clear hb hr hs
  unfold shortF
  by_cases h1 : f.box.length ≤ 400
  · have g1 : (f.box.length : Int) ≤ (400 : Int) := by omega
    by_cases h2 : f.sign.length ≤ 110
    · have g2 : (f.sign.length : Int) ≤ (110 : Int) := by omega
      go_enter Try.func45, Try.ntmps45
      go_wp2_with fail
      go_ret
      exact ⟨by simp [h1, h2], B⟩
    · have g2 : ¬ (f.sign.length : Int) ≤ (110 : Int) := by omega
      go_enter Try.func45, Try.ntmps45
      go_wp2_with fail
      go_ret
      exact ⟨by simp, B⟩
  · have g1 : ¬ (f.box.length : Int) ≤ (400 : Int) := by omega
    go_enter Try.func45, Try.ntmps45
    go_wp2_with fail
    go_ret
    exact ⟨by simp, B⟩
end
end
section
section
open Go.RowKit
theorem fold_getO (off : Nat) : ∀ (l : List Value) (k i : Nat) (a : Array Value), ((l.zipIdx k).foldl (fun cs (p : Value × Nat) => cs.setIfInBounds (off + p.2) p.1) a)[i]? = if off + k ≤ i ∧ i < off + k + l.length ∧ i < a.size then l[i - (off + k)]? else a[i]?
  | [], k, i, a => by simp; omega
  | x :: l, k, i, a => by
    rw [List.zipIdx_cons, List.foldl_cons, fold_getO off l (k + 1) i]
    simp only [Array.size_setIfInBounds, List.length_cons]
    by_cases h1 : off + (k + 1) ≤ i ∧ i < off + (k + 1) + l.length ∧ i < a.size
    · rw [if_pos h1, if_pos (by omega), show i - (off + k) = (i - (off + (k + 1))) + 1 by omega]; simp
    · rw [if_neg h1]
      by_cases h2 : off + k = i
      · subst h2
        simp only [Array.getElem?_setIfInBounds]
        by_cases h3 : off + k < a.size
        · simp [h3]
        · simp [h3]
      · rw [if_neg (by omega)]
        simp [h2]
theorem fill_part {place : Nat → Option (Nat × Nat)} {s off i : Nat} (hp : place i = some (off, s)) (base : List Value) (v : Value) (cs : List Value) (hv : v.cells = cs.toArray) (hc : cs.length = s) (hb : off + s ≤ base.length) (rest : List (Nat × Value)) :
    Instr.fill place base.toArray ((i, v) :: rest) = Instr.fill place (spl base off cs).toArray rest := by
  subst hc
  have hcond : ¬ (cs.toArray.size ≠ cs.length ∨ off + cs.toArray.size > base.toArray.size) := by simp; omega
  conv => lhs; unfold Instr.fill
  simp only [hp, hv]
  rw [if_neg (by simpa using hcond)]
  congr 1
  apply Array.ext_getElem?
  intro j
  have e : cs.toArray.zipIdx.foldl (fun (cs : Array Value) (p : Value × Nat) => cs.setIfInBounds (off + p.2) p.1) base.toArray = (cs.zipIdx 0).foldl (fun cs (p : Value × Nat) => cs.setIfInBounds (off + p.2) p.1) base.toArray := by
    rw [← Array.foldl_toList, Array.toList_zipIdx]
  have h := fold_getO off cs 0 j base.toArray
  rw [← e] at h
  rw [h, List.getElem?_toArray, List.getElem?_toArray, spl, Nat.add_zero]
  simp only [List.size_toArray]
  by_cases h1 : j < off
  · rw [if_neg (by omega), List.getElem?_append_left (by simp; omega), List.getElem?_append_left (by simp; omega), List.getElem?_take, if_pos h1]
  · by_cases h2 : j < off + cs.length
    · rw [if_pos (by omega), List.getElem?_append_left (by simp; omega), List.getElem?_append_right (by simp; omega)]
      simp [show min off base.length = off by omega]
    · rw [if_neg (by omega), List.getElem?_append_right (by simp; omega), List.getElem?_drop]
      simp [show min off base.length = off by omega, show off + cs.length + (j - (off + cs.length)) = j by omega]

theorem spl_next (P Z x : List Value) (n : Nat) (hP : P.length = n) (hx : x.length = 32) : spl (P ++ Z.drop n) n x = P ++ x ++ Z.drop (n + 32) := by
  rw [spl, List.take_append_of_le_length (by omega), List.take_of_length_le (by omega), hx, List.drop_append, List.drop_of_length_le (by omega), List.nil_append, hP, List.drop_drop]
  congr 2; omega
set_option maxRecDepth 10000 in
theorem bslK3 (a b c : List UInt8) (ha : a.length = 32) (hb : b.length = 32) (hc : c.length = 32) (w : World) : (bsliceK 41 3 #[(0, .agg (u8s a)), (1, .agg (u8s b)), (2, .agg (u8s c))]).run Try.prog w = .ok (.value (.slice (some ⟨w.heap.size, 0, none⟩) 3 3)) (w.alloc (.cells (flatK [a, b, c]).toArray 72)) := by
  obtain ⟨i, z, hi, hz, hs1, hb1, hzc⟩ := keyInfo_parts
  obtain ⟨Z, hZ⟩ : ∃ Z : List Value, (Array.range (3 * i.size)).map (z.cells[· % z.cells.size]!) = Z.toArray := ⟨_, (Array.toArray_toList (xs := _)).symm⟩
  have hZl : Z.length = 96 := by
    have := congrArg Array.size hZ
    simp [hs1] at this; omega
  have la : (u8v a).length = 32 := by rw [u8v_length, ha]
  have lb : (u8v b).length = 32 := by rw [u8v_length, hb]
  have lc : (u8v c).length = 32 := by rw [u8v_length, hc]
  have e0 : spl Z 0 (u8v a) = u8v a ++ Z.drop 32 := by rw [spl, List.take_zero, List.nil_append, Nat.zero_add, la]
  have q0 : (u8v a ++ Z.drop 32).length = 96 := by simp only [List.length_append, List.length_drop]; omega
  have e1 : spl (u8v a ++ Z.drop 32) 32 (u8v b) = u8v a ++ u8v b ++ Z.drop 64 := spl_next _ _ _ _ (by first | omega | (simp only [List.length_append]; omega)) lb
  have q1 : (u8v a ++ u8v b ++ Z.drop 64).length = 96 := by simp only [List.length_append, List.length_drop]; omega
  have e2 : spl (u8v a ++ u8v b ++ Z.drop 64) 64 (u8v c) = u8v a ++ u8v b ++ u8v c ++ Z.drop 96 := spl_next _ _ _ _ (by first | omega | (simp only [List.length_append]; omega)) lc
  have q2 : (u8v a ++ u8v b ++ u8v c ++ Z.drop 96).length = 96 := by simp only [List.length_append, List.length_drop]; omega
  unfold bsliceK
  have := run_buildSlice (P := Try.prog) w 41 72 3 #[(0, .agg (u8s a)), (1, .agg (u8s b)), (2, .agg (u8s c))] (flatK [a, b, c]).toArray i z Try.underlying41 hi hz (by rw [hs1]; omega) (by rw [hs1]; omega) (by
    rw [hZ, hs1]
    rw [fill_part (s := 32) (off := 0) rfl _ (.agg (u8s a)) (u8v a) (by rw [u8s_toArray]; rfl) la (by omega), e0]
    rw [fill_part (s := 32) (off := 32) rfl _ (.agg (u8s b)) (u8v b) (by rw [u8s_toArray]; rfl) lb (by omega), e1]
    rw [fill_part (s := 32) (off := 64) rfl _ (.agg (u8s c)) (u8v c) (by rw [u8s_toArray]; rfl) lc (by omega), e2]
    unfold Instr.fill
    rw [List.drop_of_length_le (by omega), List.append_nil]
    simp only [flatK, List.flatMap_cons, List.flatMap_nil, List.append_nil, List.append_assoc])
  simp only [Sem.run_bind, this, Result.andThen_ok, Sem.run_pure]
set_option maxRecDepth 10000 in
theorem bslK4 (a b c d : List UInt8) (ha : a.length = 32) (hb : b.length = 32) (hc : c.length = 32) (hd : d.length = 32) (w : World) : (bsliceK 41 4 #[(0, .agg (u8s a)), (1, .agg (u8s b)), (2, .agg (u8s c)), (3, .agg (u8s d))]).run Try.prog w = .ok (.value (.slice (some ⟨w.heap.size, 0, none⟩) 4 4)) (w.alloc (.cells (flatK [a, b, c, d]).toArray 72)) := by
  obtain ⟨i, z, hi, hz, hs1, hb1, hzc⟩ := keyInfo_parts
  obtain ⟨Z, hZ⟩ : ∃ Z : List Value, (Array.range (4 * i.size)).map (z.cells[· % z.cells.size]!) = Z.toArray := ⟨_, (Array.toArray_toList (xs := _)).symm⟩
  have hZl : Z.length = 128 := by
    have := congrArg Array.size hZ
    simp [hs1] at this; omega
  have la : (u8v a).length = 32 := by rw [u8v_length, ha]
  have lb : (u8v b).length = 32 := by rw [u8v_length, hb]
  have lc : (u8v c).length = 32 := by rw [u8v_length, hc]
  have ld : (u8v d).length = 32 := by rw [u8v_length, hd]
  have e0 : spl Z 0 (u8v a) = u8v a ++ Z.drop 32 := by rw [spl, List.take_zero, List.nil_append, Nat.zero_add, la]
  have q0 : (u8v a ++ Z.drop 32).length = 128 := by simp only [List.length_append, List.length_drop]; omega
  have e1 : spl (u8v a ++ Z.drop 32) 32 (u8v b) = u8v a ++ u8v b ++ Z.drop 64 := spl_next _ _ _ _ (by first | omega | (simp only [List.length_append]; omega)) lb
  have q1 : (u8v a ++ u8v b ++ Z.drop 64).length = 128 := by simp only [List.length_append, List.length_drop]; omega
  have e2 : spl (u8v a ++ u8v b ++ Z.drop 64) 64 (u8v c) = u8v a ++ u8v b ++ u8v c ++ Z.drop 96 := spl_next _ _ _ _ (by first | omega | (simp only [List.length_append]; omega)) lc
  have q2 : (u8v a ++ u8v b ++ u8v c ++ Z.drop 96).length = 128 := by simp only [List.length_append, List.length_drop]; omega
  have e3 : spl (u8v a ++ u8v b ++ u8v c ++ Z.drop 96) 96 (u8v d) = u8v a ++ u8v b ++ u8v c ++ u8v d ++ Z.drop 128 := spl_next _ _ _ _ (by first | omega | (simp only [List.length_append]; omega)) ld
  have q3 : (u8v a ++ u8v b ++ u8v c ++ u8v d ++ Z.drop 128).length = 128 := by simp only [List.length_append, List.length_drop]; omega
  unfold bsliceK
  have := run_buildSlice (P := Try.prog) w 41 72 4 #[(0, .agg (u8s a)), (1, .agg (u8s b)), (2, .agg (u8s c)), (3, .agg (u8s d))] (flatK [a, b, c, d]).toArray i z Try.underlying41 hi hz (by rw [hs1]; omega) (by rw [hs1]; omega) (by
    rw [hZ, hs1]
    rw [fill_part (s := 32) (off := 0) rfl _ (.agg (u8s a)) (u8v a) (by rw [u8s_toArray]; rfl) la (by omega), e0]
    rw [fill_part (s := 32) (off := 32) rfl _ (.agg (u8s b)) (u8v b) (by rw [u8s_toArray]; rfl) lb (by omega), e1]
    rw [fill_part (s := 32) (off := 64) rfl _ (.agg (u8s c)) (u8v c) (by rw [u8s_toArray]; rfl) lc (by omega), e2]
    rw [fill_part (s := 32) (off := 96) rfl _ (.agg (u8s d)) (u8v d) (by rw [u8s_toArray]; rfl) ld (by omega), e3]
    unfold Instr.fill
    rw [List.drop_of_length_le (by omega), List.append_nil]
    simp only [flatK, List.flatMap_cons, List.flatMap_nil, List.append_nil, List.append_assoc])
  simp only [Sem.run_bind, this, Result.andThen_ok, Sem.run_pure]
theorem fr_keys {w : World} {g : Nat} {f : FrP} {vb vs : Value} (h : RowIs w g (frC f vb vs)) (hw : f.WF) :
    (loadAgg 72 (.pointer (some ⟨g, 2, none⟩))).run Try.prog w = .ok (.value (.agg (u8s f.eph))) w ∧ (loadAgg 72 (.pointer (some ⟨g, 34, none⟩))).run Try.prog w = .ok (.value (.agg (u8s f.epo))) w ∧
    (loadAgg 72 (.pointer (some ⟨g, 66, none⟩))).run Try.prog w = .ok (.value (.agg (u8s f.nxt))) w := by
  have key : ∀ (o : Nat) (K : List UInt8), K.length = 32 → (∀ j v, (u8v K)[j]? = some v → (frL f vb vs)[o + j]? = some v) → (loadAgg 72 (.pointer (some ⟨g, o, none⟩))).run Try.prog w = .ok (.value (.agg (u8s K))) w := by
    intro o K hK hh
    refine key_load (fun j v hv => ?_) hK
    exact fr_at h (o + j) v (hh j v hv)
  refine ⟨key 2 _ hw.eph fun j v hv => ?_, key 34 _ hw.epo fun j v hv => ?_, key 66 _ hw.nxt fun j v hv => ?_⟩
  · have hj := (List.getElem?_eq_some_iff.1 hv).1
    unfold frL
    rw [show 2 + j = j + 1 + 1 by omega, List.getElem?_cons_succ, List.getElem?_cons_succ, List.getElem?_append_left hj]; exact hv
  · have hj := (List.getElem?_eq_some_iff.1 hv).1
    unfold frL
    rw [show 34 + j = (32 + j) + 1 + 1 by omega, List.getElem?_cons_succ, List.getElem?_cons_succ, List.getElem?_append_right (by rw [u8v_length, hw.eph]; omega), u8v_length, hw.eph, show 32 + j - 32 = j by omega, List.getElem?_append_left hj]; exact hv
  · have hj := (List.getElem?_eq_some_iff.1 hv).1
    unfold frL
    rw [show 66 + j = (64 + j) + 1 + 1 by omega, List.getElem?_cons_succ, List.getElem?_cons_succ, List.getElem?_append_right (by rw [u8v_length, hw.eph]; omega), u8v_length, hw.eph, List.getElem?_append_right (by rw [u8v_length, hw.epo]; omega), u8v_length, hw.epo, show 64 + j - 32 - 32 = j by omega, List.getElem?_append_left hj]; exact hv
end
end
section
section
open Go.RowKit
attribute [local go_sem ↓] xbslK
theorem putP_grow (o : OutP) (wr : Bool) (e : Int) (x : List UInt8) : (putP o wr e x).b.length ≤ o.b.length + x.length := by
  unfold putP
  split
  · split
    · simp
    · simp
  · omega
theorem onumP_grow (o : OutP) (n : UInt64) (k : Int) : (onumP o n k).b.length ≤ o.b.length + 8 := by
  have := putP_grow o (!(sizeOk k && fitsN n k)) 51 (highX n k)
  have := highX_length n k
  unfold onumP; omega
theorem okeysP_grow (o : OutP) (ks : BLs) (h : ∀ k ∈ ks, k.length = 32) : (okeysP o ks).b.length ≤ o.b.length + 2 + 32 * ks.length := by
  have := putP_grow o (decide (100 < ks.length)) 2 (highX (UInt64.ofNat ks.length) 2 ++ ks.flatten)
  rw [List.length_append, len2, flat32 ks h] at this
  unfold okeysP; omega
theorem obytesP_grow (o : OutP) (b : List UInt8) : (obytesP o b).b.length ≤ o.b.length + 2 + b.length := by
  have := putP_grow o (decide (4000 < b.length)) 2 (highX (UInt64.ofNat b.length) 2 ++ b)
  rw [List.length_append, len2] at this
  unfold obytesP; omega
def core3 (o : OutP) (f : FrP) : OutP := onumP (onumP (onumP o (UInt64.ofNat 1) 1) (UInt64.ofNat f.idx) 4) (UInt64.ofNat f.ack) 4
def coreO (o : OutP) (f : FrP) : OutP := obytesP (okeysP (core3 o f) [f.eph, f.epo, f.nxt]) f.box
theorem coreO_enc (o : OutP) (f : FrP) : coreO o f = encOut ((coreI f).map Prod.fst) o := by
  simp [coreO, core3, coreI, encOut, putIt, numI, keysI, byteI]
theorem three_keys {f : FrP} (hw : f.WF) : ∀ k ∈ [f.eph, f.epo, f.nxt], k.length = 32 := by
  intro k hk
  simp only [List.mem_cons, List.not_mem_nil, or_false] at hk
  rcases hk with rfl | rfl | rfl
  · exact hw.eph
  · exact hw.epo
  · exact hw.nxt
theorem wrap64 (n : Nat) (h : n < 18446744073709551616) : IntKind.u64.wrap (n : Int) = n := by
  unfold IntKind.wrap
  simp [IntKind.bits, IntKind.signed]
  omega
theorem FrV.upd {w w' : World} {f : FrP} {v : Value} {g : Nat} (h : FrV w f v) (hu : Upd g w w') (hn : No8 w g) : FrV w' f v := by
  obtain ⟨vb, vs, h1, h2, h3, h4⟩ := h
  exact ⟨vb, vs, h1, h2, h3.upd hu hn, h4.upd h2.sign hu hn⟩
set_option maxRecDepth 100000 in
set_option maxHeartbeats 3200000 in
theorem core_any (g : Nat) (o : OutP) (f : FrP) (v : Value) (w : World) (ho : OutIs w g o) (h : FrV w f v) (hsz : o.b.length ≤ 1000) (hbx : f.box.length ≤ 1000) :
    Calls Try.prog 84 #[.pointer (some ⟨g, 0, none⟩), v] w (OutTo g (coreO o f) w) := by
  obtain ⟨vb, vs, rfl, hw, hb, hs⟩ := h
  obtain ⟨A, c, rfl, -⟩ := id hb
  obtain ⟨r, hr⟩ : ∃ r, r = w.heap.size := ⟨_, rfl⟩
  have B : Below w.heap.size w (w.alloc (.cells (frC f (.slice A f.box.length c) vs) 80)) := (by repeat (first | with_reducible exact Below.refl _ _ | with_reducible assumption | refine Below.drew ?_ | refine below_drewN ?_ | refine Below.alloc ?_ (by first | omega | (simp; done) | (simp; omega)) _ | refine below_setRow ?_ (by omega) _ | refine Below.setCell ?_ (by first | omega | (simp; done) | (simp; omega)) _))
  have R : RowIs (w.alloc (.cells (frC f (.slice A f.box.length c) vs) 80)) r (frC f (.slice A f.box.length c) vs) := RowIs.new' hr
  have hne : r ≠ g := by have := ho.lt; omega
  have ho1 := ho.step B
  have hb1 := hb.step B
  have u0 : Upd g w (w.alloc (.cells (frC f (.slice A f.box.length c) vs) 80)) := Upd.of B
  have l1 := onumP_grow o (UInt64.ofNat 1) 1
  have l2 := onumP_grow (onumP o (UInt64.ofNat 1) 1) (UInt64.ofNat f.idx) 4
  have l3 := onumP_grow (onumP (onumP o (UInt64.ofNat 1) 1) (UInt64.ofNat f.idx) 4) (UInt64.ofNat f.ack) 4
  have l4 := okeysP_grow (core3 o f) [f.eph, f.epo, f.nxt] (three_keys hw)
  have S1 := outnum_any g o (UInt64.ofNat 1) 1 _ ho1 (by omega)
  have S2 := fun W hW => outnum_any g (onumP o (UInt64.ofNat 1) 1) (UInt64.ofNat f.idx) 4 W hW (by omega)
  have S3 := fun W hW => outnum_any g (onumP (onumP o (UInt64.ofNat 1) 1) (UInt64.ofNat f.idx) 4) (UInt64.ofNat f.ack) 4 W hW (by omega)
  rw [n64_nat 1 (by omega)] at S1
  rw [n64_nat f.idx (by have := hw.idx; omega)] at S2
  rw [n64_nat f.ack (by have := hw.ack; omega)] at S3
  have HR := Lib.hid hr
  have H1 := Lib.hid S1; have H2 := Lib.hid S2; have H3 := Lib.hid S3
  have hbw := n64_nat f.idx (by have := hw.idx; omega)
  clear S1 S2 S3 hr
  go_enter Try.func84, Try.ntmps84
  go_wp2_with fail
  refine H1.out.mono ?_
  rintro e w2 ⟨rfl, ho2, u2⟩
  have R2 := R.upd u2 hne
  have hb2 := hb1.upd u2 ho1.no8
  obtain ⟨c0, c1, c5, c6⟩ := fr_cells R2 hw
  rw [HR.out] at c0 c1 c5 c6
  have e1 : IntKind.u64.wrap (f.idx : Int) = f.idx := wrap64 f.idx (by have := hw.idx; omega)
  have e2 : IntKind.u64.wrap (f.ack : Int) = f.ack := wrap64 f.ack (by have := hw.ack; omega)
  go_wp2_with fail
  refine (H2.out _ ho2).mono ?_
  rintro e w3 ⟨rfl, ho3, u3⟩
  have R3 := R2.upd u3 hne
  have hb3 := hb2.upd u3 ho2.no8
  obtain ⟨c0, c1, c5, c6⟩ := fr_cells R3 hw
  rw [HR.out] at c0 c1 c5 c6
  go_wp2_with fail
  refine (H3.out _ ho3).mono ?_
  rintro e w4 ⟨rfl, ho4, u4⟩
  have R4 := R3.upd u4 hne
  have hb4 := hb3.upd u4 ho3.no8
  obtain ⟨k0, k1, k2⟩ := fr_keys R4 hw
  rw [HR.out] at k0 k1 k2
  have hbk := bslK3 f.eph f.epo f.nxt hw.eph hw.epo hw.nxt w4
  have q4 : Below w4.heap.size w4 (w4.alloc (.cells (flatK [f.eph, f.epo, f.nxt]).toArray 72)) := (by repeat (first | with_reducible exact Below.refl _ _ | with_reducible assumption | refine Below.drew ?_ | refine below_drewN ?_ | refine Below.alloc ?_ (by first | omega | (simp; done) | (simp; omega)) _ | refine below_setRow ?_ (by omega) _ | refine Below.setCell ?_ (by first | omega | (simp; done) | (simp; omega)) _))
  have hK : KsL (w4.alloc (.cells (flatK [f.eph, f.epo, f.nxt]).toArray 72)) (.slice (some ⟨w4.heap.size, 0, none⟩) 3 3) [f.eph, f.epo, f.nxt] := KsL.rowN (three_keys hw) rfl (RowIs.new _ _ _)
  have S4 := outkeys_any g (core3 o f) _ [f.eph, f.epo, f.nxt] _ (OutIs.step ho4 q4) hK (three_keys hw) (by simp) (by unfold core3; omega)
  have H4 := Lib.hid S4
  clear S4
  go_wp2_with fail
  refine H4.out.mono ?_
  rintro e w5 ⟨rfl, ho5, u5⟩
  have R5 := (R4.step q4).upd u5 hne
  have hb5 := (hb4.step q4).upd u5 (ho4.step q4).no8
  obtain ⟨c0, c1, c5, c6⟩ := fr_cells R5 hw
  rw [HR.out] at c0 c1 c5 c6
  have S5 := outbytes_any g (okeysP (core3 o f) [f.eph, f.epo, f.nxt]) _ f.box w5 ho5 hb5 (by unfold core3 at l4 ⊢; simp only [List.length_cons, List.length_nil] at l4; omega)
  have H5 := Lib.hid S5
  clear S5
  go_wp2_with fail
  refine H5.out.mono ?_
  rintro e w6 ⟨rfl, ho6, u6⟩
  go_wp2_with fail
  go_end0
  exact ⟨rfl, ho6, ((((u0.trans u2).trans u3).trans u4).then q4).trans (u5.trans u6)⟩
end
end
section
section
open Go.RowKit
theorem core_done {f : FrP} (hw : f.WF) (h : shapeP f = 0) : coreO ⟨[], 0⟩ f = ⟨coreB f, 0⟩ := by
  rw [coreO_enc, encOut_good _ _ (fun x hx => by obtain ⟨p, hp, rfl⟩ := List.mem_map.1 hx; exact (core_ok hw h p hp).1), List.nil_append, List.map_map]
  rfl
theorem enc_done {f : FrP} (hw : f.WF) (h : checkP f = 0) : okeysP (coreO ⟨[], 0⟩ f) f.sign = ⟨bytesI (frI f), 0⟩ := by
  have hs := (check_0 h).2
  rw [core_done hw (check_0 h).1, fr_split]
  unfold okeysP putP itB keysI
  simp [hs]
def PairTo (p : List UInt8 × Int) (w : World) (e : Ending) (w' : World) : Prop := ∃ v, e = .returned (.tuple #[v, .int .i64 p.2]) ∧ Bs w' v p.1 ∧ Below w.heap.size w w'
set_option maxRecDepth 100000 in
set_option maxHeartbeats 3200000 in
theorem frcore_any (f : FrP) (v : Value) (w : World) (h : FrV w f v) : Calls Try.prog 47 #[v] w (PairTo (coreP f) w) := by
  obtain ⟨vb, vs, rfl, hw, hb, hs⟩ := id h
  obtain ⟨A, c, rfl, -⟩ := id hb
  obtain ⟨A2, c2, rfl, -⟩ := id hs
  have B : Below w.heap.size w (w.alloc (.cells (frC f (.slice A f.box.length c) (.slice A2 f.sign.length c2)) 80)) := (by repeat (first | with_reducible exact Below.refl _ _ | with_reducible assumption | refine Below.drew ?_ | refine below_drewN ?_ | refine Below.alloc ?_ (by first | omega | (simp; done) | (simp; omega)) _ | refine below_setRow ?_ (by omega) _ | refine Below.setCell ?_ (by first | omega | (simp; done) | (simp; omega)) _))
  have R : RowIs (w.alloc (.cells (frC f (.slice A f.box.length c) (.slice A2 f.sign.length c2)) 80)) w.heap.size (frC f (.slice A f.box.length c) (.slice A2 f.sign.length c2)) := RowIs.new _ _ _
  have L := frload R hw
  have hv1 := h.step B
  have S := shape_any f _ _ hv1
  have Z := R.lt
  have HS := Lib.hid S
  clear S h hb hs
  go_enter Try.func47, Try.ntmps47
  go_wp2_with fail
  refine HS.out.mono ?_
  rintro e w2 ⟨rfl, b2⟩
  have R2 := R.below b2 Z
  have hv2 := hv1.step b2
  have B2 := B.trans (b2.mono B.size)
  by_cases h0 : shapeP f = 0
  · have ck : coreP f = (coreB f, 0) := if_pos h0
    have CK := Lib.hid ck
    have H0 := Lib.hid h0
    rw [h0]
    clear h0 ck
    obtain ⟨g, hg⟩ : ∃ g, g = w2.heap.size := ⟨_, rfl⟩
    have q3 : Below w2.heap.size w2 (w2.alloc (.cells #[.slice none 0 0, .int .i64 0] 49)) := (by repeat (first | with_reducible exact Below.refl _ _ | with_reducible assumption | refine Below.drew ?_ | refine below_drewN ?_ | refine Below.alloc ?_ (by first | omega | (simp; done) | (simp; omega)) _ | refine below_setRow ?_ (by omega) _ | refine Below.setCell ?_ (by first | omega | (simp; done) | (simp; omega)) _))
    have ho3 : OutIs (w2.alloc (.cells #[.slice none 0 0, .int .i64 0] 49)) g ⟨[], 0⟩ := ⟨_, RowIs.new' hg, Bs.nil _⟩
    have R3 := R2.step q3
    have L3 := frload R3 hw
    have hv3 := hv2.step q3
    have hgw : w.heap.size < g := by have := B2.size; have := b2.size; simp at this; omega
    have hbx : f.box.length ≤ 1000 := by have := shape_0 (H0.out); omega
    have S4 := core_any g ⟨[], 0⟩ f _ _ ho3 hv3 (by simp) hbx
    have B3 := B2.trans (q3.mono B2.size)
    rw [hg] at S4
    have HG := Lib.hid hg
    have H4 := Lib.hid S4
    clear S4 hg
    go_wp2_with fail
    refine H4.out.mono ?_
    rintro e w4 ⟨rfl, ho4, u4⟩
    rw [← HG.out] at ho4 u4
    rw [core_done hw H0.out] at ho4
    have hlen2 : (coreB f).length ≤ 1000000 := by rw [core_len hw]; omega
    have S6 := outdone_any g ⟨coreB f, 0⟩ w4 ho4 hlen2
    rw [HG.out] at S6
    have H6 := Lib.hid S6
    have u45 := u4
    clear S6
    go_wp2_with fail
    refine H6.out.mono ?_
    rintro e w6 ⟨v6, rfl, hb6, b6⟩
    have B5 := u45.below B3 (by omega) B3.size
    go_wp2_with fail
    refine bodyPost_ret (results_tmp2 rfl _ _ _) rfl ?_
    exact ⟨v6, by rw [CK.out]; rfl, by rw [CK.out]; exact hb6, B5.trans (b6.mono B5.size)⟩
  · have ck : coreP f = ([], shapeP f) := if_neg h0
    have CK := Lib.hid ck
    have g2 : (shapeP f != (0 : Int)) = true := by rw [bne_iff_ne]; exact h0
    clear h0 ck
    go_wp2_with fail
    refine bodyPost_ret (results_tmp2 rfl _ _ _) rfl ?_
    exact ⟨_, by rw [CK.out]; rfl, by rw [CK.out]; exact Bs.nil _, B2⟩
set_option maxRecDepth 100000 in
set_option maxHeartbeats 3200000 in
theorem frenc_any (f : FrP) (v : Value) (w : World) (h : FrV w f v) : Calls Try.prog 49 #[v] w (PairTo (encFP f) w) := by
  obtain ⟨vb, vs, rfl, hw, hb, hs⟩ := id h
  obtain ⟨A, c, rfl, -⟩ := id hb
  obtain ⟨A2, c2, rfl, -⟩ := id hs
  have B : Below w.heap.size w (w.alloc (.cells (frC f (.slice A f.box.length c) (.slice A2 f.sign.length c2)) 80)) := (by repeat (first | with_reducible exact Below.refl _ _ | with_reducible assumption | refine Below.drew ?_ | refine below_drewN ?_ | refine Below.alloc ?_ (by first | omega | (simp; done) | (simp; omega)) _ | refine below_setRow ?_ (by omega) _ | refine Below.setCell ?_ (by first | omega | (simp; done) | (simp; omega)) _))
  have R : RowIs (w.alloc (.cells (frC f (.slice A f.box.length c) (.slice A2 f.sign.length c2)) 80)) w.heap.size (frC f (.slice A f.box.length c) (.slice A2 f.sign.length c2)) := RowIs.new _ _ _
  have L := frload R hw
  have hv1 := h.step B
  have S := check_any f _ _ hv1
  have Z := R.lt
  have HS := Lib.hid S
  clear S h hb
  go_enter Try.func49, Try.ntmps49
  go_wp2_with fail
  refine HS.out.mono ?_
  rintro e w2 ⟨rfl, b2⟩
  have R2 := R.below b2 Z
  have hv2 := hv1.step b2
  have B2 := B.trans (b2.mono B.size)
  by_cases h0 : checkP f = 0
  · have ck : encFP f = (bytesI (frI f), 0) := if_pos h0
    have CK := Lib.hid ck
    have H0 := Lib.hid h0
    rw [h0]
    clear h0 ck
    obtain ⟨g, hg⟩ : ∃ g, g = w2.heap.size := ⟨_, rfl⟩
    have q3 : Below w2.heap.size w2 (w2.alloc (.cells #[.slice none 0 0, .int .i64 0] 49)) := (by repeat (first | with_reducible exact Below.refl _ _ | with_reducible assumption | refine Below.drew ?_ | refine below_drewN ?_ | refine Below.alloc ?_ (by first | omega | (simp; done) | (simp; omega)) _ | refine below_setRow ?_ (by omega) _ | refine Below.setCell ?_ (by first | omega | (simp; done) | (simp; omega)) _))
    have ho3 : OutIs (w2.alloc (.cells #[.slice none 0 0, .int .i64 0] 49)) g ⟨[], 0⟩ := ⟨_, RowIs.new' hg, Bs.nil _⟩
    have R3 := R2.step q3
    have L3 := frload R3 hw
    have hv3 := hv2.step q3
    have hs3 := ((hs.step B).step b2).step q3
    have hgw : w.heap.size < g := by have := B2.size; have := b2.size; simp at this; omega
    have hbx : f.box.length ≤ 1000 := by have := shape_0 ((check_0 H0.out).1); omega
    have S4 := core_any g ⟨[], 0⟩ f _ _ ho3 hv3 (by simp) hbx
    have B3 := B2.trans (q3.mono B2.size)
    rw [hg] at S4
    have HG := Lib.hid hg
    have H4 := Lib.hid S4
    clear S4 hg
    go_wp2_with fail
    refine H4.out.mono ?_
    rintro e w4 ⟨rfl, ho4, u4⟩
    rw [← HG.out] at ho4 u4
    have hv4 := hv3.upd u4 ho3.no8
    have R4 := R3.upd u4 (by omega)
    obtain ⟨c0, c1, c5, c6⟩ := fr_cells R4 hw
    have hlen : (coreO ⟨[], 0⟩ f).b.length ≤ 1200 := by rw [core_done hw (check_0 H0.out).1]; show (coreB f).length ≤ 1200; rw [core_len hw]; omega
    have hK : KsL w4 (.slice A2 f.sign.length c2) f.sign := hs3.upd hw.sign u4 ho3.no8
    have S5 := outkeys_any g (coreO ⟨[], 0⟩ f) _ f.sign w4 ho4 hK hw.sign (by have := (check_0 H0.out).2; omega) (by omega)
    rw [enc_done hw H0.out, HG.out] at S5
    have H5 := Lib.hid S5
    clear S5
    go_wp2_with fail
    refine H5.out.mono ?_
    rintro e w5 ⟨rfl, ho5, u5⟩
    rw [← HG.out] at ho5 u5
    have hlen2 : (bytesI (frI f)).length ≤ 1000000 := by rw [fr_len hw]; have := (check_0 H0.out).2; omega
    have S6 := outdone_any g ⟨bytesI (frI f), 0⟩ w5 ho5 hlen2
    rw [HG.out] at S6
    have H6 := Lib.hid S6
    have u45 := u4.trans u5
    clear S6
    go_wp2_with fail
    refine H6.out.mono ?_
    rintro e w6 ⟨v6, rfl, hb6, b6⟩
    have B5 := u45.below B3 (by omega) B3.size
    go_wp2_with fail
    refine bodyPost_ret (results_tmp2 rfl _ _ _) rfl ?_
    exact ⟨v6, by rw [CK.out]; rfl, by rw [CK.out]; exact hb6, B5.trans (b6.mono B5.size)⟩
  · have ck : encFP f = ([], checkP f) := if_neg h0
    have CK := Lib.hid ck
    have g2 : (checkP f != (0 : Int)) = true := by rw [bne_iff_ne]; exact h0
    clear h0 ck
    go_wp2_with fail
    refine bodyPost_ret (results_tmp2 rfl _ _ _) rfl ?_
    exact ⟨_, by rw [CK.out]; rfl, by rw [CK.out]; exact Bs.nil _, B2⟩
end
end
section
section
open Go.RowKit
attribute [local go_sem ↓] xbslK
set_option maxRecDepth 100000 in
set_option maxHeartbeats 3200000 in
theorem refcore_any (f : FrP) (v : Value) (w : World) (h : FrV w f v) : Calls Try.prog 48 #[v] w (PairTo (coreP f) w) := by
  obtain ⟨vb, vs, rfl, hw, hb, hs⟩ := id h
  obtain ⟨A, c, rfl, -⟩ := id hb
  obtain ⟨A2, c2, rfl, -⟩ := id hs
  obtain ⟨r, hr⟩ : ∃ r, r = w.heap.size := ⟨_, rfl⟩
  have B : Below w.heap.size w (w.alloc (.cells (frC f (.slice A f.box.length c) (.slice A2 f.sign.length c2)) 80)) := (by repeat (first | with_reducible exact Below.refl _ _ | with_reducible assumption | refine Below.drew ?_ | refine below_drewN ?_ | refine Below.alloc ?_ (by first | omega | (simp; done) | (simp; omega)) _ | refine below_setRow ?_ (by omega) _ | refine Below.setCell ?_ (by first | omega | (simp; done) | (simp; omega)) _))
  have R : RowIs (w.alloc (.cells (frC f (.slice A f.box.length c) (.slice A2 f.sign.length c2)) 80)) r (frC f (.slice A f.box.length c) (.slice A2 f.sign.length c2)) := RowIs.new' hr
  have L := frload R hw
  rw [hr] at L
  have hv1 := h.step B
  have S := refshape_any f _ _ hv1
  have Z := R.lt
  have hb1 := hb.step B
  have hs1 := hs.step B
  have HS := Lib.hid S
  have HR := Lib.hid hr
  clear S h hb hs hr
  go_enter Try.func48, Try.ntmps48
  go_wp2_with fail
  refine HS.out.mono ?_
  rintro e w2 ⟨rfl, b2⟩
  have R2 := R.below b2 Z
  have hv2 := hv1.step b2
  have hb2 := hb1.step b2
  have hs2 := hs1.step b2
  have B2 := B.trans (b2.mono B.size)
  by_cases h0 : shapeP f = 0
  · have ck : coreP f = (coreB f, 0) := if_pos h0
    have CK := Lib.hid ck
    have hcd := core_done hw h0
    have hbx : f.box.length ≤ 1000 := by have := shape_0 h0; omega
    rw [h0]
    clear h0 ck
    obtain ⟨g, hg⟩ : ∃ g, g = w2.heap.size := ⟨_, rfl⟩
    have q3 : Below w2.heap.size w2 (w2.alloc (.cells #[.slice none 0 0, .int .i64 0] 52)) := (by repeat (first | with_reducible exact Below.refl _ _ | with_reducible assumption | refine Below.drew ?_ | refine below_drewN ?_ | refine Below.alloc ?_ (by first | omega | (simp; done) | (simp; omega)) _ | refine below_setRow ?_ (by omega) _ | refine Below.setCell ?_ (by first | omega | (simp; done) | (simp; omega)) _))
    have ho1 : OutIs (w2.alloc (.cells #[.slice none 0 0, .int .i64 0] 52)) g ⟨[], 0⟩ := ⟨_, RowIs.new' hg, Bs.nil _⟩
    have R3 := R2.step q3
    have hb3 := hb2.step q3
    have hgw : r < g := by have := Z; have := b2.size; omega
    have hgr : w.heap.size < g := by have := HR.out; omega
    have hne : r ≠ g := by omega
    have B3 := B2.trans (q3.mono B2.size)
    have l1 := onumP_grow ⟨[], 0⟩ (UInt64.ofNat 1) 1
    have l2 := onumP_grow (onumP ⟨[], 0⟩ (UInt64.ofNat 1) 1) (UInt64.ofNat f.idx) 4
    have l3 := onumP_grow (onumP (onumP ⟨[], 0⟩ (UInt64.ofNat 1) 1) (UInt64.ofNat f.idx) 4) (UInt64.ofNat f.ack) 4
    have l4 := okeysP_grow (core3 ⟨[], 0⟩ f) [f.eph, f.epo, f.nxt] (three_keys hw)
    rw [show (⟨[], 0⟩ : OutP).b.length = 0 from rfl] at l1
    have S1 := refoutnum_any g ⟨[], 0⟩ (UInt64.ofNat 1) 1 _ ho1 (by simp)
    have S2 := fun W hW => refoutnum_any g (onumP ⟨[], 0⟩ (UInt64.ofNat 1) 1) (UInt64.ofNat f.idx) 4 W hW (by omega)
    have S3 := fun W hW => refoutnum_any g (onumP (onumP ⟨[], 0⟩ (UInt64.ofNat 1) 1) (UInt64.ofNat f.idx) 4) (UInt64.ofNat f.ack) 4 W hW (by omega)
    rw [n64_nat 1 (by omega), hg] at S1
    rw [n64_nat f.idx (by have := hw.idx; omega), hg] at S2
    rw [n64_nat f.ack (by have := hw.ack; omega), hg] at S3
    have HG := Lib.hid hg
    have H1 := Lib.hid S1; have H2 := Lib.hid S2; have H3 := Lib.hid S3
    clear S1 S2 S3 hg
    go_wp2_with fail
    refine H1.out.mono ?_
    rintro e w3 ⟨rfl, ho3, u3⟩
    rw [← HG.out] at ho3 u3
    have R4 := R3.upd u3 hne
    have hb4 := hb3.upd u3 ho1.no8
    obtain ⟨c0, c1, c5, c6⟩ := fr_cells R4 hw
    rw [HR.out] at c0 c1 c5 c6
    have e1 : IntKind.u64.wrap (f.idx : Int) = f.idx := wrap64 f.idx (by have := hw.idx; omega)
    have e2 : IntKind.u64.wrap (f.ack : Int) = f.ack := wrap64 f.ack (by have := hw.ack; omega)
    go_wp2_with fail
    refine (H2.out _ (HG.out ▸ ho3)).mono ?_
    rintro e w4 ⟨rfl, ho4, u4⟩
    rw [← HG.out] at ho4 u4
    have R5 := R4.upd u4 hne
    have hb5 := hb4.upd u4 ho3.no8
    obtain ⟨c0, c1, c5, c6⟩ := fr_cells R5 hw
    rw [HR.out] at c0 c1 c5 c6
    go_wp2_with fail
    refine (H3.out _ (HG.out ▸ ho4)).mono ?_
    rintro e w5 ⟨rfl, ho5, u5⟩
    rw [← HG.out] at ho5 u5
    have R6 := R5.upd u5 hne
    have hb6 := hb5.upd u5 ho4.no8
    obtain ⟨k0, k1, k2⟩ := fr_keys R6 hw
    rw [HR.out] at k0 k1 k2
    have hbk := bslK3 f.eph f.epo f.nxt hw.eph hw.epo hw.nxt w5
    have q5 : Below w5.heap.size w5 (w5.alloc (.cells (flatK [f.eph, f.epo, f.nxt]).toArray 72)) := (by repeat (first | with_reducible exact Below.refl _ _ | with_reducible assumption | refine Below.drew ?_ | refine below_drewN ?_ | refine Below.alloc ?_ (by first | omega | (simp; done) | (simp; omega)) _ | refine below_setRow ?_ (by omega) _ | refine Below.setCell ?_ (by first | omega | (simp; done) | (simp; omega)) _))
    have hK : KsL (w5.alloc (.cells (flatK [f.eph, f.epo, f.nxt]).toArray 72)) (.slice (some ⟨w5.heap.size, 0, none⟩) 3 3) [f.eph, f.epo, f.nxt] := KsL.rowN (three_keys hw) rfl (RowIs.new _ _ _)
    have S4 := refoutkeys_any g (core3 ⟨[], 0⟩ f) _ [f.eph, f.epo, f.nxt] _ (OutIs.step ho5 q5) hK (three_keys hw) (by simp) (by unfold core3; omega)
    rw [HG.out] at S4
    have H4 := Lib.hid S4
    clear S4
    go_wp2_with fail
    refine H4.out.mono ?_
    rintro e w6 ⟨rfl, ho6, u6⟩
    rw [← HG.out] at ho6 u6
    have R7 := (R6.step q5).upd u6 hne
    have hb7 := (hb6.step q5).upd u6 (ho5.step q5).no8
    obtain ⟨c0, c1, c5, c6⟩ := fr_cells R7 hw
    rw [HR.out] at c0 c1 c5 c6
    have S5 := refoutbytes_any g (okeysP (core3 ⟨[], 0⟩ f) [f.eph, f.epo, f.nxt]) _ f.box w6 ho6 hb7 (by unfold core3 at l4 ⊢; simp only [List.length_cons, List.length_nil] at l4; omega)
    rw [show obytesP (okeysP (core3 ⟨[], 0⟩ f) [f.eph, f.epo, f.nxt]) f.box = coreO ⟨[], 0⟩ f from rfl, hcd, HG.out] at S5
    have H5 := Lib.hid S5
    clear S5
    go_wp2_with fail
    refine H5.out.mono ?_
    rintro e w7 ⟨rfl, ho7, u7⟩
    obtain ⟨vo, ro, hvo⟩ := ho7
    obtain ⟨d0, d1⟩ := row2_cells ro
    rw [← HG.out] at u7
    have U := ((((u3.trans u4).trans u5).then q5).trans u6).trans u7
    have B5 := U.below B3 (by omega) B3.size
    go_wp2_with fail
    refine bodyPost_ret (results_tmp2 rfl _ _ _) rfl ?_
    exact ⟨vo, by rw [CK.out]; rfl, by rw [CK.out]; exact hvo, B5⟩
  · have ck : coreP f = ([], shapeP f) := if_neg h0
    have CK := Lib.hid ck
    have g2 : (shapeP f != (0 : Int)) = true := by rw [bne_iff_ne]; exact h0
    clear h0 ck
    go_wp2_with fail
    refine bodyPost_ret (results_tmp2 rfl _ _ _) rfl ?_
    exact ⟨_, by rw [CK.out]; rfl, by rw [CK.out]; exact Bs.nil _, B2⟩
set_option maxRecDepth 100000 in
set_option maxHeartbeats 3200000 in
theorem refenc_any (f : FrP) (v : Value) (w : World) (h : FrV w f v) : Calls Try.prog 50 #[v] w (PairTo (encFP f) w) := by
  obtain ⟨vb, vs, rfl, hw, hb, hs⟩ := id h
  obtain ⟨A, c, rfl, -⟩ := id hb
  obtain ⟨A2, c2, rfl, -⟩ := id hs
  obtain ⟨r, hr⟩ : ∃ r, r = w.heap.size := ⟨_, rfl⟩
  have B : Below w.heap.size w (w.alloc (.cells (frC f (.slice A f.box.length c) (.slice A2 f.sign.length c2)) 80)) := (by repeat (first | with_reducible exact Below.refl _ _ | with_reducible assumption | refine Below.drew ?_ | refine below_drewN ?_ | refine Below.alloc ?_ (by first | omega | (simp; done) | (simp; omega)) _ | refine below_setRow ?_ (by omega) _ | refine Below.setCell ?_ (by first | omega | (simp; done) | (simp; omega)) _))
  have R : RowIs (w.alloc (.cells (frC f (.slice A f.box.length c) (.slice A2 f.sign.length c2)) 80)) r (frC f (.slice A f.box.length c) (.slice A2 f.sign.length c2)) := RowIs.new' hr
  have L := frload R hw
  rw [hr] at L
  have hv1 := h.step B
  have S := refcheck_any f _ _ hv1
  have Z := R.lt
  have hb1 := hb.step B
  have hs1 := hs.step B
  have HS := Lib.hid S
  have HR := Lib.hid hr
  clear S h hb hs hr
  go_enter Try.func50, Try.ntmps50
  go_wp2_with fail
  refine HS.out.mono ?_
  rintro e w2 ⟨rfl, b2⟩
  have R2 := R.below b2 Z
  have hv2 := hv1.step b2
  have hb2 := hb1.step b2
  have hs2 := hs1.step b2
  have B2 := B.trans (b2.mono B.size)
  by_cases h0 : checkP f = 0
  · have ck : encFP f = (bytesI (frI f), 0) := if_pos h0
    have CK := Lib.hid ck
    have hed := enc_done hw h0
    rw [core_done hw (check_0 h0).1] at hed
    have hcp : coreP f = (coreB f, 0) := if_pos (check_0 h0).1
    have hbx : f.box.length ≤ 1000 := by have := shape_0 (check_0 h0).1; omega
    have hsg : f.sign.length ≤ 1000 := by have := (check_0 h0).2; omega
    have S2 := refcore_any f _ w2 hv2
    unfold PairTo at S2
    rw [hcp] at S2
    have L2 := frload R2 hw
    rw [HR.out] at L2
    have H2 := Lib.hid S2
    rw [h0]
    clear h0 ck S2 hcp
    go_wp2_with fail
    refine H2.out.mono ?_
    rintro e w3 ⟨vc, rfl, hbc, b3⟩
    have R3 := R2.step b3
    have hs3 := hs2.step b3
    have B3 := B2.trans (b3.mono B2.size)
    obtain ⟨Ac, cc, rfl, -⟩ := id hbc
    obtain ⟨g, hg⟩ : ∃ g, g = w3.heap.size := ⟨_, rfl⟩
    have q4 : Below w3.heap.size w3 (w3.alloc (.cells #[.slice Ac (coreB f).length cc, .int .i64 0] 52)) := (by repeat (first | with_reducible exact Below.refl _ _ | with_reducible assumption | refine Below.drew ?_ | refine below_drewN ?_ | refine Below.alloc ?_ (by first | omega | (simp; done) | (simp; omega)) _ | refine below_setRow ?_ (by omega) _ | refine Below.setCell ?_ (by first | omega | (simp; done) | (simp; omega)) _))
    have ho4 : OutIs (w3.alloc (.cells #[.slice Ac (coreB f).length cc, .int .i64 0] 52)) g ⟨coreB f, 0⟩ := ⟨_, RowIs.new' hg, hbc.step q4⟩
    have R4 := R3.step q4
    obtain ⟨c0, c1, c5, c6⟩ := fr_cells R4 hw
    rw [HR.out] at c0 c1 c5 c6
    have hgw : w.heap.size < g := by have := Z; have := b2.size; have := b3.size; have := HR.out; omega
    have S5 := refoutkeys_any g ⟨coreB f, 0⟩ _ f.sign _ ho4 (hs3.step q4) hw.sign hsg (by show (coreB f).length ≤ 500000; rw [core_len hw]; omega)
    rw [hed, hg] at S5
    have B4 := B3.trans (q4.mono B3.size)
    have HG := Lib.hid hg
    have H5 := Lib.hid S5
    clear S5 hg
    go_wp2_with fail
    refine H5.out.mono ?_
    rintro e w7 ⟨rfl, ho7, u7⟩
    obtain ⟨vo, ro, hvo⟩ := ho7
    obtain ⟨d0, d1⟩ := row2_cells ro
    rw [← HG.out] at u7
    have B5 := u7.below B4 (by omega) B4.size
    go_wp2_with fail
    refine bodyPost_ret (results_tmp2 rfl _ _ _) rfl ?_
    exact ⟨vo, by rw [CK.out]; rfl, by rw [CK.out]; exact hvo, B5⟩
  · have ck : encFP f = ([], checkP f) := if_neg h0
    have CK := Lib.hid ck
    have g2 : (checkP f != (0 : Int)) = true := by rw [bne_iff_ne]; exact h0
    clear h0 ck
    go_wp2_with fail
    refine bodyPost_ret (results_tmp2 rfl _ _ _) rfl ?_
    exact ⟨_, by rw [CK.out]; rfl, by rw [CK.out]; exact Bs.nil _, B2⟩
end
end
end Go.Proofs.Ytifnpphkplogaaa
