/- Layer 9, the plain law: what an Out holds, what an In is left with, what items are written as and read from. | Layer 9, the plain law: what is written is read again, cut short it is none; what is read is written again. | Layer 9, the plain law: what is decoded is encoded. -/
import Derived.Test.YtifnpphkplogaaaNum
import Derived.Test.YtifnpphkplogaaaBs
namespace Go.Proofs.Ytifnpphkplogaaa
section
open Go.RowKit
abbrev BLs := List (List UInt8)
structure OutP where
  b : List UInt8
  e : Int
def putP (o : OutP) (wrong : Bool) (e : Int) (x : List UInt8) : OutP := if o.e = 0 then (if wrong then ⟨o.b, e⟩ else ⟨o.b ++ x, 0⟩) else o
def sizeOk (k : Int) : Bool := decide (k = 1 ∨ k = 2 ∨ k = 4 ∨ k = 8)
def fitsN (n : UInt64) (k : Int) : Bool := decide (n.toNat < 2 ^ (8 * k.toNat))
@[irreducible] def highX (n : UInt64) (k : Int) : List UInt8 := (lowX n k).reverse
theorem highX_def (n : UInt64) (k : Int) : highX n k = (lowX n k).reverse := by unfold highX; rfl
theorem highX_length (n : UInt64) (k : Int) : (highX n k).length ≤ 8 := by rw [highX_def, List.length_reverse]; exact lowX_length n k
theorem highX_len (n : UInt64) (k : Nat) (h : k ≤ 8) : (highX n k).length = k := by
  rw [highX_def, List.length_reverse, lowX, if_pos (by omega), Int.toNat_natCast, lowB_length]
def onumP (o : OutP) (n : UInt64) (k : Int) : OutP := putP o (!(sizeOk k && fitsN n k)) 51 (highX n k)
def obytesP (o : OutP) (b : List UInt8) : OutP := putP o (decide (4000 < b.length)) 2 (highX (UInt64.ofNat b.length) 2 ++ b)
def okeysP (o : OutP) (ks : BLs) : OutP := putP o (decide (100 < ks.length)) 2 (highX (UInt64.ofNat ks.length) 2 ++ ks.flatten)
def doneP (o : OutP) : List UInt8 × Int := if o.e = 0 then (o.b, 0) else ([], o.e)
structure InP where
  b : List UInt8
  e : Int
def failP (i : InP) (e : Int) : InP := if i.e = 0 then ⟨[], e⟩ else i
def takeP (i : InP) (n : Nat) : List UInt8 × InP := if i.e = 0 then (if n ≤ i.b.length then (i.b.take n, ⟨i.b.drop n, 0⟩) else ([], ⟨[], 3⟩)) else ([], i)
@[irreducible] def ofHighB (l : List UInt8) : UInt64 := ofHighK l (min l.length 8)
theorem ofHighB_def (l : List UInt8) : ofHighB l = ofHighK l (min l.length 8) := by unfold ofHighB; rfl
def inumP (i : InP) (k : Int) : UInt64 × InP := if sizeOk k then (ofHighB (takeP i k.toNat).1, (takeP i k.toNat).2) else (0, failP i 51)
def ilimP (i : InP) (most lim : Int) : Nat × InP := ((inumP i 2).1.toNat, if min most lim < ((inumP i 2).1.toNat : Int) then failP (inumP i 2).2 2 else (inumP i 2).2)
def ibytesP (i : InP) (most : Int) : List UInt8 × InP := takeP (ilimP i most 4000).2 (ilimP i most 4000).1
def keyOfB (l : List UInt8) : List UInt8 := if l.length = 32 then l else List.replicate 32 0
def ikeyP (i : InP) : List UInt8 × InP := (keyOfB (takeP i 32).1, (takeP i 32).2)
/-- bytes, cut into keys -/
def cutK (l : List UInt8) : Nat → BLs
  | 0 => []
  | k + 1 => cutK l k ++ [(l.drop (32 * k)).take 32]
def ikeysP (i : InP) (most : Int) : BLs × InP :=
  (cutK (takeP (ilimP i most 100).2 (32 * (ilimP i most 100).1)).1 ((takeP (ilimP i most 100).2 (32 * (ilimP i most 100).1)).1.length / 32), (takeP (ilimP i most 100).2 (32 * (ilimP i most 100).1)).2)
def endP (i : InP) : Int := if i.e = 0 ∧ i.b ≠ [] then 50 else i.e
/-! ### items -/
structure ItP where
  kind : Int
  n : UInt64
  b : List UInt8
  l : BLs
def kindOk (k : Int) : Bool := decide (k = 9 ∨ k = 32) || sizeOk k
def putIt (o : OutP) (x : ItP) : OutP := if x.kind = 9 then obytesP o x.b else if x.kind = 32 then okeysP o x.l else onumP o x.n x.kind
def encOut : List ItP → OutP → OutP
  | [], o => o
  | x :: r, o => encOut r (putIt o x)
def encP (l : List ItP) : List UInt8 × Int := if l.all (fun x => kindOk x.kind) then doneP (encOut l ⟨[], 0⟩) else ([], 51)
def getIt (i : InP) (k : Int) : ItP × InP :=
  if k = 9 then (⟨k, 0, (ibytesP i 4000).1, []⟩, (ibytesP i 4000).2) else if k = 32 then (⟨k, 0, [], (ikeysP i 100).1⟩, (ikeysP i 100).2) else (⟨k, (inumP i k).1, [], []⟩, (inumP i k).2)
def decIn : List Int → InP → List ItP × InP
  | [], i => ([], i)
  | k :: r, i => ((getIt i k).1 :: (decIn r (getIt i k).2).1, (decIn r (getIt i k).2).2)
def decP (shape : List Int) (b : List UInt8) : List ItP × Int :=
  if shape.all kindOk then (if endP (decIn shape ⟨b, 0⟩).2 = 0 then ((decIn shape ⟨b, 0⟩).1, 0) else ([], endP (decIn shape ⟨b, 0⟩).2)) else ([], 51)
/-! ### numbers -/
theorem fitsN_8 (n : UInt64) : fitsN n 8 = true := by
  unfold fitsN; rw [decide_eq_true_eq]; have := n.toNat_lt; simpa using this
theorem ofHigh_highX (n : UInt64) (k : Int) (hk : sizeOk k = true) (hn : fitsN n k = true) : ofHighB (highX n k) = n := by
  unfold sizeOk at hk; unfold fitsN at hn
  rw [decide_eq_true_eq] at hk hn
  obtain ⟨m, rfl⟩ : ∃ m : Nat, k = m := ⟨k.toNat, by omega⟩
  rw [Int.toNat_natCast] at hn
  have hm : m ≤ 8 := by omega
  rw [ofHighB_def, highX_len n m hm, show min m 8 = m by omega, highX_def, lowX, if_pos (by omega), Int.toNat_natCast]
  exact ofHigh_highB n m hm hn
theorem keyOfB_length (l : List UInt8) : (keyOfB l).length = 32 := by
  unfold keyOfB; split
  · assumption
  · simp
theorem cutK_length (l : List UInt8) : ∀ k, (cutK l k).length = k
  | 0 => rfl
  | k + 1 => by rw [cutK, List.length_append, cutK_length l k]; rfl
theorem cutK_all (l : List UInt8) : ∀ k, 32 * k ≤ l.length → ∀ x ∈ cutK l k, x.length = 32
  | 0, _, x, hx => by simp [cutK] at hx
  | k + 1, h, x, hx => by
    rw [cutK, List.mem_append] at hx
    rcases hx with hx | hx
    · exact cutK_all l k (by omega) x hx
    · obtain rfl : x = _ := by simpa using hx
      rw [List.length_take, List.length_drop]; omega
theorem cutK_flat (l : List UInt8) : ∀ k, 32 * k ≤ l.length → (cutK l k).flatten = l.take (32 * k)
  | 0, _ => by simp [cutK]
  | k + 1, h => by
    rw [cutK, List.flatten_append, cutK_flat l k (by omega), show 32 * (k + 1) = 32 * k + 32 by omega, List.take_add]
    simp
end
section
open Go.RowKit
/-! ### what is written -/
/-- an item's bytes -/
def itB (x : ItP) : List UInt8 := if x.kind = 9 then highX (UInt64.ofNat x.b.length) 2 ++ x.b else if x.kind = 32 then highX (UInt64.ofNat x.l.length) 2 ++ x.l.flatten else highX x.n x.kind
def itOk (x : ItP) : Prop := if x.kind = 9 then x.b.length ≤ 4000 else if x.kind = 32 then x.l.length ≤ 100 else sizeOk x.kind = true ∧ fitsN x.n x.kind = true
def itN (x : ItP) : ItP := if x.kind = 9 then ⟨x.kind, 0, x.b, []⟩ else if x.kind = 32 then ⟨x.kind, 0, [], x.l⟩ else ⟨x.kind, x.n, [], []⟩
theorem putP_err {o : OutP} (h : o.e ≠ 0) (wr : Bool) (e : Int) (x : List UInt8) : putP o wr e x = o := by unfold putP; rw [if_neg h]
theorem putIt_err {o : OutP} (h : o.e ≠ 0) (x : ItP) : putIt o x = o := by
  unfold putIt; split
  · exact putP_err h _ _ _
  · split <;> exact putP_err h _ _ _
theorem encOut_err : ∀ (l : List ItP) {o : OutP}, o.e ≠ 0 → encOut l o = o
  | [], _, _ => rfl
  | x :: r, o, h => by rw [encOut, putIt_err h]; exact encOut_err r h
theorem putIt_ok (p : List UInt8) (x : ItP) (h : (putIt ⟨p, 0⟩ x).e = 0) : putIt ⟨p, 0⟩ x = ⟨p ++ itB x, 0⟩ ∧ itOk x := by
  unfold putIt at h ⊢; unfold itB itOk
  by_cases h9 : x.kind = 9
  · simp only [h9, if_true] at h ⊢
    unfold obytesP putP at h ⊢
    by_cases hl : 4000 < x.b.length
    · simp [hl] at h
    · simp [hl]; omega
  · by_cases h32 : x.kind = 32
    · simp only [h32] at h ⊢
      unfold okeysP putP at h ⊢
      by_cases hl : 100 < x.l.length
      · simp [hl] at h
      · simp [hl]; omega
    · simp only [h9, h32, if_false] at h ⊢
      unfold onumP putP at h ⊢
      by_cases hl : (sizeOk x.kind && fitsN x.n x.kind) = true
      · rw [Bool.and_eq_true] at hl
        simp [hl.1, hl.2]
      · simp [hl] at h
theorem encOut_ok : ∀ (l : List ItP) (p : List UInt8), (encOut l ⟨p, 0⟩).e = 0 → encOut l ⟨p, 0⟩ = ⟨p ++ (l.map itB).flatten, 0⟩ ∧ ∀ x ∈ l, itOk x
  | [], p, _ => by simp [encOut]
  | x :: r, p, h => by
    rw [encOut] at h ⊢
    by_cases h0 : (putIt ⟨p, 0⟩ x).e = 0
    · obtain ⟨e1, e2⟩ := putIt_ok p x h0
      rw [e1] at h ⊢
      obtain ⟨e3, e4⟩ := encOut_ok r (p ++ itB x) h
      rw [e3]
      refine ⟨by simp, fun y hy => ?_⟩
      rcases List.mem_cons.1 hy with rfl | hy
      · exact e2
      · exact e4 y hy
    · rw [encOut_err r h0] at h
      exact absurd h h0
theorem putIt_good (p : List UInt8) (x : ItP) (h : itOk x) : putIt ⟨p, 0⟩ x = ⟨p ++ itB x, 0⟩ := by
  unfold itOk at h; unfold putIt itB
  by_cases h9 : x.kind = 9
  · simp only [h9, if_true] at h ⊢
    unfold obytesP putP
    simp [show ¬ 4000 < x.b.length by omega]
  · by_cases h32 : x.kind = 32
    · simp only [h32] at h ⊢
      unfold okeysP putP
      simp [show ¬ 100 < x.l.length by simpa using h]
    · simp only [h9, h32, if_false] at h ⊢
      unfold onumP putP
      simp [h.1, h.2]
theorem encOut_good : ∀ (l : List ItP) (p : List UInt8), (∀ x ∈ l, itOk x) → encOut l ⟨p, 0⟩ = ⟨p ++ (l.map itB).flatten, 0⟩
  | [], p, _ => by simp [encOut]
  | x :: r, p, h => by
    rw [encOut, putIt_good p x (h x (by simp)), encOut_good r _ (fun y hy => h y (by simp [hy]))]
    simp
/-! ### what is read -/
theorem takeP_err {i : InP} (h : i.e ≠ 0) (n : Nat) : takeP i n = ([], i) := by unfold takeP; rw [if_neg h]
theorem takeP_ok (a r : List UInt8) (n : Nat) (hn : a.length = n) : takeP ⟨a ++ r, 0⟩ n = (a, ⟨r, 0⟩) := by
  subst hn
  unfold takeP; simp
theorem takeP_short (a : List UInt8) (n : Nat) (hn : a.length < n) : takeP ⟨a, 0⟩ n = ([], ⟨[], 3⟩) := by
  unfold takeP; simp [show ¬ n ≤ a.length by omega]
theorem failP_err {i : InP} (h : i.e ≠ 0) (e : Int) : failP i e = i := by unfold failP; rw [if_neg h]
theorem inumP_err {i : InP} (h : i.e ≠ 0) (k : Int) : (inumP i k).2 = i := by
  unfold inumP; split
  · rw [takeP_err h]
  · exact failP_err h _
theorem ilimP_err {i : InP} (h : i.e ≠ 0) (m l : Int) : (ilimP i m l).2 = i := by
  unfold ilimP
  simp only [inumP_err h]
  split
  · exact failP_err h _
  · rfl
theorem getIt_err {i : InP} (h : i.e ≠ 0) (k : Int) : (getIt i k).2 = i := by
  unfold getIt; split
  · unfold ibytesP; rw [ilimP_err h, takeP_err h]
  · split
    · unfold ikeysP; simp only [ilimP_err h, takeP_err h]
    · exact inumP_err h k
theorem decIn_err : ∀ (s : List Int) {i : InP}, i.e ≠ 0 → (decIn s i).2 = i
  | [], _, _ => rfl
  | k :: r, i, h => by rw [decIn]; simp only [getIt_err h]; exact decIn_err r h
theorem inumP_ok (n : UInt64) (k : Int) (r : List UInt8) (hk : sizeOk k = true) (hn : fitsN n k = true) : inumP ⟨highX n k ++ r, 0⟩ k = (n, ⟨r, 0⟩) := by
  have hl : (highX n k).length = k.toNat := by
    have hk' := hk
    unfold sizeOk at hk'; rw [decide_eq_true_eq] at hk'
    obtain ⟨m, rfl⟩ : ∃ m : Nat, k = m := ⟨k.toNat, by omega⟩
    rw [highX_len n m (by omega), Int.toNat_natCast]
  unfold inumP
  rw [if_pos hk, takeP_ok _ _ _ hl, ofHigh_highX n k hk hn]
theorem inumP_short (a : List UInt8) (k : Nat) (hk : sizeOk k = true) (h : a.length < k) : (inumP ⟨a, 0⟩ k).2 = ⟨[], 3⟩ ∧ (inumP ⟨a, 0⟩ k).1 = 0 := by
  unfold inumP
  rw [if_pos hk, takeP_short a _ (by simpa using h)]
  exact ⟨rfl, by rw [ofHighB_def]; rfl⟩
theorem fits_2 (n : Nat) (h : n ≤ 4000) : fitsN (UInt64.ofNat n) 2 = true := by
  unfold fitsN; rw [decide_eq_true_eq, UInt64.toNat_ofNat']; show n % 2 ^ 64 < 65536; omega
theorem ofNat_to (n : Nat) (h : n ≤ 4000) : (UInt64.ofNat n).toNat = n := by rw [UInt64.toNat_ofNat']; omega
theorem ilimP_ok (n : Nat) (most lim : Int) (r : List UInt8) (h : (n : Int) ≤ min most lim) (h4 : n ≤ 4000) : ilimP ⟨highX (UInt64.ofNat n) 2 ++ r, 0⟩ most lim = (n, ⟨r, 0⟩) := by
  unfold ilimP
  rw [inumP_ok _ 2 r (by decide) (fits_2 n h4)]
  simp only [ofNat_to n h4]
  rw [if_neg (by omega)]
theorem len2 (n : Nat) : (highX (UInt64.ofNat n) 2).length = 2 := highX_len _ 2 (by omega)
theorem ilimP_short (a : List UInt8) (most lim : Int) (h : a.length < 2) (h0 : 0 ≤ min most lim) : ilimP ⟨a, 0⟩ most lim = (0, ⟨[], 3⟩) := by
  have h1 := inumP_short a 2 (by decide) h
  unfold ilimP
  rw [show ((2 : Nat) : Int) = 2 by rfl] at h1
  rw [h1.1, h1.2]
  rw [if_neg (by simp; omega)]
  rfl
/-- items whose keys are keys -/
def itKeys (x : ItP) : Prop := ∀ k ∈ x.l, k.length = 32
theorem flat32 : ∀ (ks : BLs), (∀ k ∈ ks, k.length = 32) → ks.flatten.length = 32 * ks.length
  | [], _ => rfl
  | k :: r, h => by rw [List.flatten_cons, List.length_append, h k (by simp), flat32 r (fun x hx => h x (by simp [hx])), List.length_cons]; omega
theorem cutK_cons (l : List UInt8) : ∀ n, cutK l (n + 1) = l.take 32 :: cutK (l.drop 32) n
  | 0 => by simp [cutK]
  | n + 1 => by
    rw [cutK, cutK_cons l n, cutK, List.cons_append, List.drop_drop, show 32 * (n + 1) = 32 + 32 * n by omega]
theorem cutK_back : ∀ (ks : BLs), (∀ k ∈ ks, k.length = 32) → cutK ks.flatten ks.length = ks
  | [], _ => rfl
  | k :: r, h => by
    have hk : k.length = 32 := h k (by simp)
    rw [List.length_cons, cutK_cons, List.flatten_cons, ← hk, List.take_left, List.drop_left, cutK_back r (fun x hx => h x (by simp [hx]))]
theorem getIt_ok (x : ItP) (h : itOk x) (hk : itKeys x) (r : List UInt8) : getIt ⟨itB x ++ r, 0⟩ x.kind = (itN x, ⟨r, 0⟩) := by
  unfold itOk at h; unfold getIt itB itN
  by_cases h9 : x.kind = 9
  · simp only [h9, if_true] at h ⊢
    unfold ibytesP
    rw [List.append_assoc, ilimP_ok _ _ _ _ (by omega) h, takeP_ok _ _ _ rfl]
  · by_cases h32 : x.kind = 32
    · simp only [h32] at h ⊢
      have h' : x.l.length ≤ 100 := by simpa using h
      unfold ikeysP
      have hl := flat32 x.l hk
      simp only [show ¬ ((32 : Int) = 9) by omega, if_false, if_true]
      rw [List.append_assoc, ilimP_ok _ _ _ _ (by omega) (by omega), takeP_ok _ _ _ hl]
      simp only [hl]
      rw [show 32 * x.l.length / 32 = x.l.length by omega, cutK_back x.l hk]
    · simp only [h9, h32, if_false] at h ⊢
      rw [inumP_ok _ _ r h.1 h.2]
theorem decIn_ok : ∀ (l : List ItP) (r : List UInt8), (∀ x ∈ l, itOk x) → (∀ x ∈ l, itKeys x) → decIn (l.map ItP.kind) ⟨(l.map itB).flatten ++ r, 0⟩ = (l.map itN, ⟨r, 0⟩)
  | [], r, _, _ => by simp [decIn]
  | x :: t, r, h, k => by
    rw [List.map_cons, decIn, List.map_cons, List.flatten_cons, List.append_assoc, getIt_ok x (h x (by simp)) (k x (by simp)), decIn_ok t r (fun y hy => h y (by simp [hy])) (fun y hy => k y (by simp [hy])), List.map_cons]
theorem getIt_short (x : ItP) (h : itOk x) (hk : itKeys x) (a : List UInt8) (ha : ∃ r, itB x = a ++ r ∧ r ≠ []) : (getIt ⟨a, 0⟩ x.kind).2 = ⟨[], 3⟩ := by
  obtain ⟨r, hr, hne⟩ := ha
  have hrl : 0 < r.length := List.length_pos_iff.2 hne
  unfold itOk at h; unfold itB at hr; unfold getIt
  have key : ∀ (n : Nat) (body : List UInt8) (most lim : Int), (n : Int) ≤ min most lim → n ≤ 4000 → highX (UInt64.ofNat n) 2 ++ body = a ++ r → ∀ m, body.length = m → ilimP ⟨a, 0⟩ most lim = (0, ⟨[], 3⟩) ∨ ∃ s, ilimP ⟨a, 0⟩ most lim = (n, ⟨s, 0⟩) ∧ s.length < m := by
    intro n body most lim h1 h2 h3 m hm
    by_cases h4 : a.length < 2
    · exact .inl (ilimP_short a most lim h4 (by omega))
    · refine .inr ⟨a.drop 2, ?_, ?_⟩
      · have e : a = highX (UInt64.ofNat n) 2 ++ a.drop 2 := by
          have e1 := congrArg (List.take 2) h3
          rw [List.take_append_of_le_length (by rw [len2]; omega), List.take_append_of_le_length (by omega), List.take_of_length_le (by rw [len2]; omega)] at e1
          rw [e1, List.take_append_drop]
        have := ilimP_ok n most lim (a.drop 2) h1 h2
        rw [← e] at this
        exact this
      · have := congrArg List.length h3
        rw [List.length_append, List.length_append, len2] at this
        rw [List.length_drop]; omega
  by_cases h9 : x.kind = 9
  · simp only [h9, if_true] at h hr ⊢
    unfold ibytesP
    rcases key _ _ 4000 4000 (by omega) h hr _ rfl with e | ⟨s, e, hs⟩
    · rw [e]; exact congrArg Prod.snd (takeP_err (by simp) 0)
    · rw [e]; exact congrArg Prod.snd (takeP_short s _ hs)
  · by_cases h32 : x.kind = 32
    · simp only [h32] at h hr ⊢
      have h' : x.l.length ≤ 100 := by simpa using h
      have hr' : highX (UInt64.ofNat x.l.length) 2 ++ x.l.flatten = a ++ r := by simpa using hr
      unfold ikeysP
      simp only [show ¬ ((32 : Int) = 9) by omega, if_false, if_true]
      have hl := flat32 x.l hk
      rcases key _ _ 100 100 (by omega) (by omega) hr' _ hl with e | ⟨s, e, hs⟩
      · rw [e]; exact congrArg Prod.snd (takeP_err (by simp) _)
      · rw [e]; exact congrArg Prod.snd (takeP_short s _ hs)
    · simp only [h9, h32, if_false] at h hr ⊢
      have hk' := h.1
      unfold sizeOk at hk'; rw [decide_eq_true_eq] at hk'
      obtain ⟨m, hm⟩ : ∃ m : Nat, x.kind = m := ⟨x.kind.toNat, by omega⟩
      have h1 := h.1
      rw [hm] at hr h1 ⊢
      have := congrArg List.length hr
      rw [highX_len _ m (by omega), List.length_append] at this
      exact (inumP_short a m h1 (by omega)).1
theorem decIn_short : ∀ (l : List ItP) (left : Nat), (∀ x ∈ l, itOk x) → (∀ x ∈ l, itKeys x) → left < (l.map itB).flatten.length → (decIn (l.map ItP.kind) ⟨(l.map itB).flatten.take left, 0⟩).2 = ⟨[], 3⟩
  | [], left, _, _, h => by simp at h
  | x :: t, left, h, k, hl => by
    rw [List.map_cons, List.flatten_cons, List.length_append] at hl
    rw [List.map_cons, decIn, List.map_cons, List.flatten_cons]
    by_cases h1 : left < (itB x).length
    · have e : (getIt ⟨(itB x ++ (t.map itB).flatten).take left, 0⟩ x.kind).2 = ⟨[], 3⟩ := by
        rw [List.take_append_of_le_length (by omega)]
        refine getIt_short x (h x (by simp)) (k x (by simp)) _ ⟨(itB x).drop left, (List.take_append_drop _ _).symm, fun e => ?_⟩
        have := congrArg List.length e
        rw [List.length_drop] at this; simp at this; omega
      simp only [e]
      exact decIn_err _ (by simp)
    · have e : (itB x ++ (t.map itB).flatten).take left = itB x ++ (t.map itB).flatten.take (left - (itB x).length) := by
        rw [List.take_append, List.take_of_length_le (by omega)]
      simp only [e, getIt_ok x (h x (by simp)) (k x (by simp))]
      exact decIn_short t _ (fun y hy => h y (by simp [hy])) (fun y hy => k y (by simp [hy])) (by omega)
theorem kinds_ok {l : List ItP} (h : ∀ x ∈ l, kindOk x.kind = true) : (l.map ItP.kind).all kindOk = true := by simpa [List.all_eq_true] using h
/-- what is encoded is decoded -/
theorem back_all (l : List ItP) (hk : ∀ x ∈ l, itKeys x) (he : (encP l).2 = 0) :
    (encP l).1 = (l.map itB).flatten ∧ decP (l.map ItP.kind) (encP l).1 = (l.map itN, 0) ∧ (decP (l.map ItP.kind) ((encP l).1 ++ [0])).2 = 50 ∧ ∀ left, left < (encP l).1.length → (decP (l.map ItP.kind) ((encP l).1.take left)).2 = 3 := by
  unfold encP at he ⊢
  by_cases ha : (l.all fun x => kindOk x.kind) = true
  · rw [if_pos ha] at he ⊢
    unfold doneP at he ⊢
    by_cases h0 : (encOut l ⟨[], 0⟩).e = 0
    · obtain ⟨e1, e2⟩ := encOut_ok l [] h0
      rw [if_pos h0, e1]
      simp only [List.nil_append]
      have hko : (l.map ItP.kind).all kindOk = true := kinds_ok (by simpa [List.all_eq_true] using ha)
      refine ⟨trivial, ?_, ?_, fun left hl => ?_⟩
      · unfold decP; rw [if_pos hko]
        have := decIn_ok l [] e2 hk
        rw [List.append_nil] at this
        rw [this, if_pos (by simp [endP])]
      · unfold decP; rw [if_pos hko, decIn_ok l [0] e2 hk]
        simp [endP]
      · unfold decP; rw [if_pos hko]
        have := decIn_short l left e2 hk hl
        rw [this]
        simp [endP]
    · rw [if_neg h0] at he; exact absurd he h0
  · rw [if_neg ha] at he; simp at he
theorem enc_err_nil (l : List ItP) (he : (encP l).2 ≠ 0) : (encP l).1 = [] := by
  unfold encP at he ⊢
  split
  · rename_i h; rw [if_pos h] at he; unfold doneP at he ⊢; split
    · rename_i h0; rw [if_pos h0] at he; exact absurd rfl he
    · rfl
  · rfl
theorem dec_err_nil (s : List Int) (b : List UInt8) (he : (decP s b).2 ≠ 0) : (decP s b).1 = [] := by
  unfold decP at he ⊢
  split
  · rename_i h; rw [if_pos h] at he; split
    · rename_i h0; rw [if_pos h0] at he; exact absurd rfl he
    · rfl
  · rfl
end
section
open Go.RowKit
theorem lowV_digit (l : List UInt8) : ∀ (k i : Nat), i < k → lowV l k / 2 ^ (8 * i) % 256 = (at8 l i).toNat
  | 0, i, h => by omega
  | k + 1, i, h => by
    rw [lowV]
    have hb := (at8 l k).toNat_lt
    by_cases e : i = k
    · subst e
      have hl := lowV_lt l i
      rw [Nat.add_mul_div_right _ _ (by exact Nat.two_pow_pos _), Nat.div_eq_of_lt hl]
      omega
    · have ih := lowV_digit l k i (by omega)
      obtain ⟨d, hd⟩ : ∃ d, k = i + d + 1 := ⟨k - i - 1, by omega⟩
      have e2 : (at8 l k).toNat * 2 ^ (8 * k) = ((at8 l k).toNat * 2 ^ (8 * d) * 256) * 2 ^ (8 * i) := by
        rw [hd, show 8 * (i + d + 1) = 8 * d + 8 + 8 * i by omega, Nat.pow_add, Nat.pow_add, show (2 : Nat) ^ 8 = 256 by rfl]
        simp only [Nat.mul_assoc]
      rw [e2, Nat.add_mul_div_right _ _ (Nat.two_pow_pos _)]
      omega
theorem highX_ofHigh (x : List UInt8) (k : Nat) (h8 : k ≤ 8) (hx : x.length = k) : highX (ofHighB x) k = x := by
  have hv : (ofHighB x).toNat = lowV x.reverse k := by
    rw [ofHighB_def, hx, show min k 8 = k by omega, ofHighK_val _ _ h8]
    apply high_turned'
    intro i hi
    rw [at8_reverse _ _ (by omega), hx, show k - 1 - (k - 1 - i) = i by omega]
  rw [highX_def, lowX, if_pos (by omega), Int.toNat_natCast]
  have e : lowB (ofHighB x) k = x.reverse := by
    apply List.ext_getElem
    · rw [lowB_length, List.length_reverse, hx]
    · intro i h1 h2
      have hi : i < k := by rw [lowB_length] at h1; exact h1
      have e1 : (lowB (ofHighB x) k)[i] = byteOf (ofHighB x) i := by simp [lowB]
      have e2 : x.reverse[i] = at8 x.reverse i := by rw [at8_def, List.getD_eq_getElem?_getD, List.getElem?_eq_getElem h2]; rfl
      rw [e1, e2]
      apply UInt8.toNat_inj.1
      unfold byteOf
      rw [UInt8.toNat_ofNat', hv]
      exact lowV_digit x.reverse k i hi
  rw [e, List.reverse_reverse]
theorem fits_ofHigh (x : List UInt8) (k : Nat) (h8 : k ≤ 8) (hx : x.length = k) : fitsN (ofHighB x) k = true := by
  unfold fitsN
  rw [decide_eq_true_eq, ofHighB_def, hx, show min k 8 = k by omega, ofHighK_val _ _ h8]
  exact highV_lt x k
theorem takeP_inv {i : InP} {n : Nat} (h : (takeP i n).2.e = 0) : i.e = 0 ∧ n ≤ i.b.length ∧ takeP i n = (i.b.take n, ⟨i.b.drop n, 0⟩) := by
  unfold takeP at h ⊢
  by_cases h0 : i.e = 0
  · rw [if_pos h0] at h ⊢
    by_cases h1 : n ≤ i.b.length
    · rw [if_pos h1]; exact ⟨h0, h1, rfl⟩
    · rw [if_neg h1] at h; simp at h
  · rw [if_neg h0] at h; exact absurd h h0
theorem inumP_inv {i : InP} {k : Int} (h : (inumP i k).2.e = 0) : i.e = 0 ∧ sizeOk k = true ∧ i.b = highX (inumP i k).1 k ++ (inumP i k).2.b ∧ fitsN (inumP i k).1 k = true := by
  unfold inumP at h ⊢
  by_cases hk : sizeOk k = true
  · rw [if_pos hk] at h ⊢
    obtain ⟨h1, h2, h3⟩ := takeP_inv h
    have hk' := hk
    unfold sizeOk at hk'; rw [decide_eq_true_eq] at hk'
    obtain ⟨m, rfl⟩ : ∃ m : Nat, k = m := ⟨k.toNat, by omega⟩
    rw [Int.toNat_natCast] at h2 h3 ⊢
    rw [h3]
    have hl : (i.b.take m).length = m := by rw [List.length_take]; omega
    refine ⟨h1, hk, ?_, fits_ofHigh _ m (by omega) hl⟩
    rw [highX_ofHigh _ m (by omega) hl, List.take_append_drop]
  · rw [if_neg hk] at h
    unfold failP at h
    split at h
    · simp at h
    · exact absurd h (by assumption)
theorem ilimP_inv {i : InP} {most lim : Int} (h : (ilimP i most lim).2.e = 0) : i.e = 0 ∧ i.b = highX (UInt64.ofNat (ilimP i most lim).1) 2 ++ (ilimP i most lim).2.b ∧ ((ilimP i most lim).1 : Int) ≤ min most lim := by
  unfold ilimP at h ⊢
  by_cases hl : min most lim < ((inumP i 2).1.toNat : Int)
  · rw [if_pos hl] at h
    unfold failP at h
    split at h
    · simp at h
    · exact absurd h (by assumption)
  · simp only [if_neg hl] at h ⊢
    obtain ⟨h1, _, h3, _⟩ := inumP_inv h
    refine ⟨h1, ?_, by omega⟩
    have : UInt64.ofNat (inumP i 2).1.toNat = (inumP i 2).1 := by simp
    rw [this]; exact h3
theorem cutK_full (l : List UInt8) (n : Nat) (h : l.length = 32 * n) : (cutK l n).flatten = l := by
  rw [cutK_flat l n (by omega), List.take_of_length_le (by omega)]
theorem getIt_inv {i : InP} {k : Int} (_hk : kindOk k = true) (h : (getIt i k).2.e = 0) : i.e = 0 ∧ (getIt i k).1.kind = k ∧ itOk (getIt i k).1 ∧ i.b = itB (getIt i k).1 ++ (getIt i k).2.b ∧ itKeys (getIt i k).1 := by
  unfold getIt at h ⊢
  by_cases h9 : k = 9
  · rw [if_pos h9] at h ⊢
    unfold ibytesP at h ⊢
    obtain ⟨h1, h2, h3⟩ := takeP_inv h
    obtain ⟨h4, h5, h6⟩ := ilimP_inv h1
    rw [h3]
    have hl : (List.take (ilimP i 4000 4000).fst (ilimP i 4000 4000).snd.b).length = (ilimP i 4000 4000).fst := by rw [List.length_take]; omega
    refine ⟨h4, rfl, ?_, ?_, fun x hx => by simp at hx⟩
    · unfold itOk; simp only [h9, if_true]; rw [hl]; omega
    · unfold itB; simp only [h9, if_true]
      rw [hl, List.append_assoc, List.take_append_drop]; exact h5
  · rw [if_neg h9] at h ⊢
    by_cases h32 : k = 32
    · rw [if_pos h32] at h ⊢
      unfold ikeysP at h ⊢
      obtain ⟨h1, h2, h3⟩ := takeP_inv h
      obtain ⟨h4, h5, h6⟩ := ilimP_inv h1
      simp only [h3]
      have hl : (List.take (32 * (ilimP i 100 100).fst) (ilimP i 100 100).snd.b).length = 32 * (ilimP i 100 100).fst := by rw [List.length_take]; omega
      have hq : 32 * (ilimP i 100 100).fst / 32 = (ilimP i 100 100).fst := by omega
      refine ⟨h4, by simp, ?_, ?_, fun x hx => ?_⟩
      · unfold itOk; simp only [h32, show ¬ ((32 : Int) = 9) by omega, if_false, if_true]; rw [cutK_length, hl, hq]; omega
      · unfold itB; simp only [h32, show ¬ ((32 : Int) = 9) by omega, if_false, if_true]
        rw [cutK_length, hl, hq, cutK_full _ _ hl, List.append_assoc, List.take_append_drop]; exact h5
      · exact cutK_all _ _ (by rw [hl]; omega) x hx
    · rw [if_neg h32] at h ⊢
      obtain ⟨h1, h2, h3, h4⟩ := inumP_inv h
      refine ⟨h1, rfl, ?_, ?_, fun x hx => by simp at hx⟩
      · unfold itOk; simp only [h9, h32, if_false]; exact ⟨h2, h4⟩
      · unfold itB; simp only [h9, h32, if_false]; exact h3
theorem decIn_inv : ∀ (s : List Int) (i : InP), (∀ k ∈ s, kindOk k = true) → (decIn s i).2.e = 0 → i.e = 0 ∧ (decIn s i).1.map ItP.kind = s ∧ (∀ x ∈ (decIn s i).1, itOk x) ∧ (∀ x ∈ (decIn s i).1, itKeys x) ∧ i.b = ((decIn s i).1.map itB).flatten ++ (decIn s i).2.b
  | [], i, _, h => by simp [decIn] at h ⊢; exact h
  | k :: r, i, hs, h => by
    rw [decIn] at h ⊢
    obtain ⟨h1, h2, h3, h5, h4⟩ := decIn_inv r (getIt i k).2 (fun x hx => hs x (by simp [hx])) h
    obtain ⟨g1, g2, g3, g4, g5⟩ := getIt_inv (hs k (by simp)) h1
    refine ⟨g1, by simp [g2, h2], ?_, ?_, ?_⟩
    · intro x hx
      rcases List.mem_cons.1 hx with rfl | hx
      · exact g3
      · exact h3 x hx
    · intro x hx
      rcases List.mem_cons.1 hx with rfl | hx
      · exact g5
      · exact h5 x hx
    · simp only [List.map_cons, List.flatten_cons]
      rw [g4, List.append_assoc, ← h4]
/-- what is decoded is encoded -/
theorem again_all (s : List Int) (b : List UInt8) (h : (decP s b).2 = 0) : encP (decP s b).1 = (b, 0) := by
  unfold decP at h ⊢
  by_cases hs : s.all kindOk = true
  · rw [if_pos hs] at h ⊢
    by_cases he : endP (decIn s ⟨b, 0⟩).2 = 0
    · rw [if_pos he]
      have hs' : ∀ k ∈ s, kindOk k = true := by simpa [List.all_eq_true] using hs
      have hq : (decIn s ⟨b, 0⟩).2.e = 0 ∧ (decIn s ⟨b, 0⟩).2.b = [] := by
        unfold endP at he
        split at he
        · simp at he
        · rename_i hn
          refine ⟨he, Classical.byContradiction fun hb => hn ⟨he, hb⟩⟩
      obtain ⟨_, h2, h3, _, h4⟩ := decIn_inv s ⟨b, 0⟩ hs' hq.1
      rw [hq.2, List.append_nil] at h4
      unfold encP
      have ha : ((decIn s ⟨b, 0⟩).1.all fun x => kindOk x.kind) = true := by
        rw [List.all_eq_true]
        intro x hx
        refine hs' _ ?_
        rw [← h2]
        exact List.mem_map_of_mem hx
      rw [if_pos ha, encOut_good _ _ h3]
      simp only [List.nil_append, doneP, if_true]
      rw [← h4]
    · rw [if_neg he] at h; exact absurd h he
  · rw [if_neg hs] at h; simp at h
end
end Go.Proofs.Ytifnpphkplogaaa
