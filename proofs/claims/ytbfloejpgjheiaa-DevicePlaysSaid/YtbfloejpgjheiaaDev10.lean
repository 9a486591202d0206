/- Layer 11, its law's own: one device at work, and bytes beside it. -/
import Derived.Test.YtbfloejpgjheiaaDev9
namespace Go.Proofs.Ytbfloejpgjheiaa
open Go.RowKit
theorem RdOps.more {w : World} {B B' : Nat} {A : Option Addr} {xs : List OpV} (h : RdOps w B A xs) (hB : B ≤ B') : RdOps w B' A xs := fun h0 => by
  obtain ⟨g, o, rfl, hg, hc⟩ := h h0
  exact ⟨g, o, rfl, by omega, fun i hi => by have := hc i hi; exact ⟨this.k, this.n, this.b, this.t, this.bc, this.br.more hB, this.tc, this.tr.more hB, this.lo, this.hi⟩⟩
structure Side (w : World) (L : DL) (v : Value) (l : List UInt8) : Prop where
  bs : Bs w v l
  off : 0 < l.length → ∀ g o n c, v = .slice (some ⟨g, o, none⟩) n c → ¬ L.has g
theorem Bs.block {w : World} {v : Value} {l : List UInt8} (h : Bs w v l) (h0 : 0 < l.length) : ∃ g o c, v = .slice (some ⟨g, o, none⟩) l.length c ∧ g < w.heap.size := by
  obtain ⟨A, c, rfl, _, _, hr⟩ := h
  obtain ⟨g, o, rfl, hg, _⟩ := hr h0
  exact ⟨g, o, c, rfl, hg⟩
theorem Side.step {w w' : World} {L : DL} {v : Value} {l : List UInt8} (h : Side w L v l) (hb : Below w.heap.size w w') : Side w' L v l := ⟨h.bs.step hb, h.off⟩
theorem Side.to {w w' : World} {L L' : DL} {d' : Dv} {v : Value} {l : List UInt8} (h : Side w L v l) (t : DevTo L L' d' w w') : Side w' L' v l := by
  have hs := t.upx.size
  refine ⟨?_, fun h0 g o n c e hk => ?_⟩
  · obtain ⟨A, c, rfl, h1, h2, hr⟩ := h.bs
    refine ⟨A, c, rfl, h1, h2, fun h0 => ?_⟩
    obtain ⟨g, o, rfl, hg, hc⟩ := hr h0
    exact ⟨g, o, rfl, by omega, fun j hj => by rw [t.upx.cell (show g < w.heap.size from hg) (h.off h0 g o _ _ rfl)]; exact hc j hj⟩
  · obtain ⟨g', o', c', e', hg⟩ := h.bs.block h0
    rw [e'] at e
    injection e with e
    injection e with e
    injection e with e
    subst e
    rcases t.has g' hk with h1 | h1
    · exact h.off h0 g' o' _ _ e' h1
    · omega
theorem Side.new {w w' : World} {L : DL} {d : Dv} {v : Value} {l : List UInt8} (hd : Dev w L d) (h : Bs w' v l) (hk : ∀ k, v.ownBlock = some k → w.heap.size ≤ k) : Side w' L v l :=
  ⟨h, fun _ g o n c e hg => by have := hd.lt hg; have := hk g (by rw [e]; rfl); omega⟩
/-- a device made since w0, and bytes beside it -/
def Held (w0 w : World) (g : Nat) (d : Dv) (vs : List (Value × List UInt8)) : Prop := ∃ L, L.g = g ∧ Dev w L d ∧ (∀ k, L.has k → w0.heap.size ≤ k) ∧ (∀ p ∈ vs, Side w L p.1 p.2) ∧ Below w0.heap.size w0 w
theorem Held.bel {w0 w : World} {g : Nat} {d : Dv} {vs : List (Value × List UInt8)} (h : Held w0 w g d vs) : Below w0.heap.size w0 w := by obtain ⟨_, _, _, _, _, h⟩ := h; exact h
theorem Held.ok {w0 w : World} {g : Nat} {d : Dv} {vs : List (Value × List UInt8)} (h : Held w0 w g d vs) : d.Ok := by obtain ⟨_, _, h, _⟩ := h; exact h.ok
theorem Held.of {w0 w : World} {g : Nat} {d : Dv} (h : Mine w0.heap.size w0 w g d) : Held w0 w g d [] := by
  obtain ⟨⟨L, hg, hd, hL⟩, hb⟩ := h
  exact ⟨L, hg, hd, hL, fun p hp => by simp at hp, hb⟩
theorem Held.new {w0 w w' : World} {n : Nat} {L : DL} {d : Dv} (hb : Below w0.heap.size w0 w) (hd : Dev w' L d) (hb2 : Below w.heap.size w w') (hL : ∀ k, L.has k → w.heap.size ≤ k) (hg : L.g = n) : Held w0 w' n d [] :=
  ⟨L, hg, hd, fun k hk => by have := hL k hk; have := hb.size; omega, fun p hp => by simp at hp, hb.trans (hb2.mono hb.size)⟩
theorem Held.step {w0 w w' : World} {g : Nat} {d : Dv} {vs : List (Value × List UInt8)} (h : Held w0 w g d vs) (hb : Below w.heap.size w w') : Held w0 w' g d vs := by
  obtain ⟨L, hg, hd, hL, hv, hbel⟩ := h
  exact ⟨L, hg, hd.step hb, hL, fun p hp => (hv p hp).step hb, hbel.trans (hb.mono hbel.size)⟩
theorem Held.bs {w0 w : World} {g : Nat} {d : Dv} {vs : List (Value × List UInt8)} (h : Held w0 w g d vs) {v : Value} {l : List UInt8} (hp : (v, l) ∈ vs) : Bs w v l := by
  obtain ⟨L, _, _, _, hv, _⟩ := h
  exact (hv _ hp).bs
def Goes (w0 : World) (g : Nat) (d' : Dv) (vs : List (Value × List UInt8)) (v : Value) (e : Ending) (w' : World) : Prop := e = .returned v ∧ Held w0 w' g d' vs
theorem Held.to {w0 w w' : World} {L L' : DL} {d' : Dv} {vs : List (Value × List UInt8)} (hL : ∀ k, L.has k → w0.heap.size ≤ k) (hv : ∀ p ∈ vs, Side w L p.1 p.2) (hb : Below w0.heap.size w0 w) (t : DevTo L L' d' w w') : Held w0 w' L.g d' vs := by
  obtain ⟨e1, e2⟩ := DevTo.at hb t hL hb.size
  exact ⟨L', t.g, t.dev, e2, fun p hp => (hv p hp).to t, e1⟩
section
variable {w0 w : World} {g : Nat} {d : Dv} {vs : List (Value × List UInt8)}
theorem held_sync (h : Held w0 w g d vs) : Calls Try.prog 10 #[.pointer (some ⟨g, 0, none⟩)] w (Goes w0 g d.sync vs (.int .i64 d.errS)) := by
  obtain ⟨L, rfl, hd, hL, hv, hb⟩ := h
  refine (sync_any L d w hd).mono ?_
  rintro e w' ⟨he, L', t⟩
  exact ⟨he, Held.to hL hv hb t⟩
theorem held_crash (h : Held w0 w g d vs) (A : Option Addr) (c : Nat) (ks : List Bool) (hc : ks.length ≤ c) (hr : RdB w0 w0.heap.size A ks) (hpl : d.pend.length ≤ 100000) :
    Calls Try.prog 12 #[.pointer (some ⟨g, 0, none⟩), .slice A ks.length c] w (Goes w0 g (d.crash ks) vs (.tuple #[])) := by
  obtain ⟨L, rfl, hd, hL, hv, hb⟩ := h
  refine (crash_any L d A c ks w hd hc ((hr.step hb).more hb.size) (hr.apart L hL) (by omega)).mono ?_
  rintro e w' ⟨he, L', t⟩
  exact ⟨he, Held.to hL hv hb t⟩
theorem held_crash0 (h : Held w0 w g d vs) (hpl : d.pend.length ≤ 100000) :
    Calls Try.prog 12 #[.pointer (some ⟨g, 0, none⟩), .slice none 0 0] w (Goes w0 g (d.crash []) vs (.tuple #[])) := held_crash h none 0 [] (Nat.le_refl _) (RdB.nil _ _ _) hpl
theorem held_write (h : Held w0 w g d vs) (i : Int) (A : Option Addr) (c : Nat) (b : List UInt8) (hc : b.length ≤ c) (hr : Rd8 w0 w0.heap.size A b) (hpl : d.pend.length ≤ 100000) :
    Calls Try.prog 14 #[.pointer (some ⟨g, 0, none⟩), .int .i64 i, .slice A b.length c] w (Goes w0 g (d.write i b) vs (.int .i64 (d.errW i b))) := by
  obtain ⟨L, rfl, hd, hL, hv, hb⟩ := h
  refine (write_any L d i A c b w hd hc ((hr.stepB hb).more hb.size) (hr.apart L hL) hpl).mono ?_
  rintro e w' ⟨he, L', t⟩
  exact ⟨he, Held.to hL hv hb t⟩
theorem held_fuse (h : Held w0 w g d vs) (n : Int) (h1 : -9223372036854775808 ≤ n) (h2 : n ≤ 9223372036854775807) :
    Calls Try.prog 17 #[.pointer (some ⟨g, 0, none⟩), .int .i64 n] w (Goes w0 g (d.setFuse n) vs (.tuple #[])) := by
  obtain ⟨L, rfl, hd, hL, hv, hb⟩ := h
  refine (fuse_any L d n w hd h1 h2).mono ?_
  rintro e w' ⟨he, t⟩
  exact ⟨he, Held.to hL hv hb t⟩
theorem held_down (h : Held w0 w g d vs) : Calls Try.prog 18 #[.pointer (some ⟨g, 0, none⟩)] w (Goes w0 g d vs (.bool d.down)) := by
  obtain ⟨L, rfl, hd, hL, hv, hb⟩ := h
  refine (down_any L d w hd).mono ?_
  rintro e w' ⟨he, rfl⟩
  exact ⟨he, L, rfl, hd, hL, hv, hb⟩
theorem held_pending (h : Held w0 w g d vs) : Calls Try.prog 19 #[.pointer (some ⟨g, 0, none⟩)] w (Goes w0 g d vs (.int .i64 d.pend.length)) := by
  obtain ⟨L, rfl, hd, hL, hv, hb⟩ := h
  refine (pending_any L d w hd).mono ?_
  rintro e w' ⟨he, rfl⟩
  exact ⟨he, L, rfl, hd, hL, hv, hb⟩
/-- all that it holds, as a new slice -/
def GoesAll (w0 : World) (w : World) (g : Nat) (d : Dv) (vs : List (Value × List UInt8)) (e : Ending) (w' : World) : Prop := ∃ A c, e = .returned (.slice A d.seen.length c) ∧ Held w0 w' g d ((.slice A d.seen.length c, d.seen) :: vs) ∧ Below w.heap.size w w'
theorem held_all (h : Held w0 w g d vs) (h8 : d.n = 8) : Calls Try.prog 11 #[.pointer (some ⟨g, 0, none⟩)] w (GoesAll w0 w g d vs) := by
  obtain ⟨L, rfl, hd, hL, hv, hb⟩ := h
  refine (all_any L d w hd h8).mono ?_
  rintro e w' ⟨A, c, rfl, hown, hb1⟩
  refine ⟨A, c, rfl, ⟨L, rfl, hd.step hb1, hL, fun p hp => ?_, hb.trans (hb1.mono hb.size)⟩, hb1⟩
  rcases List.mem_cons.1 hp with rfl | hp
  · exact Side.new hd (hown.bs (by rw [hd.ok.seen, h8]; omega)) fun k hk => (World.ownsRow.lt hown k hk).1
  · exact (hv p hp).step hb1
def GoesRead (w0 : World) (w : World) (g : Nat) (d : Dv) (i : Nat) (vs : List (Value × List UInt8)) (e : Ending) (w' : World) : Prop := ∃ v, e = .returned (.tuple #[v, .int .i64 0]) ∧ Held w0 w' g d ((v, sect d.seen i) :: vs) ∧ Below w.heap.size w w'
theorem held_read (h : Held w0 w g d vs) (i : Nat) (hi : i < d.n) : Calls Try.prog 15 #[.pointer (some ⟨g, 0, none⟩), .int .i64 i] w (GoesRead w0 w g d i vs) := by
  obtain ⟨L, rfl, hd, hL, hv, hb⟩ := h
  refine (read_any L d i w hd).mono ?_
  rintro e w' ⟨-, hR⟩
  obtain ⟨v, rfl, hbs, hb1, hk⟩ := hR (by omega) (by omega)
  rw [Int.toNat_natCast] at hbs
  refine ⟨v, rfl, ⟨L, rfl, hd.step hb1, hL, fun p hp => ?_, hb.trans (hb1.mono hb.size)⟩, hb1⟩
  rcases List.mem_cons.1 hp with rfl | hp
  · exact Side.new hd hbs hk
  · exact (hv p hp).step hb1
end
theorem Held.drop {w0 w : World} {g : Nat} {d : Dv} {p : Value × List UInt8} {vs : List (Value × List UInt8)} (h : Held w0 w g d (p :: vs)) : Held w0 w g d vs := by
  obtain ⟨L, hg, hd, hL, hv, hb⟩ := h
  exact ⟨L, hg, hd, hL, fun q hq => hv q (List.mem_cons_of_mem _ hq), hb⟩
/-- two that are held are asked whether they are alike -/
theorem held_same {w0 w : World} {g : Nat} {d : Dv} {vs : List (Value × List UInt8)} (h : Held w0 w g d vs) {a b : Value} {l m : List UInt8} (ha : Bs w a l) (hb : Bs w b m) :
    Calls Try.prog 13 #[a, b] w (Goes w0 g d vs (.bool (decide (l = m)))) := by
  refine (refSame_bs ha hb).mono ?_
  rintro e w' ⟨he, hb1⟩
  exact ⟨he, h.step hb1⟩
end Go.Proofs.Ytbfloejpgjheiaa
