/- The reader's take and puts over what its block reads as. -/
import Derived.Test.YtpakcmcoafbgkaaCc
import Derived.Test.YtpakcmcoafbgkaaCq
namespace Go.Proofs.Ytpakcmcoafbgkaa.Cx
open Go.RowKit
/-- A value that lies below block B, or nowhere. -/
def Low (B : Nat) (v : Value) : Prop := ∀ g, v.ownBlock = some g → g < B
theorem low_len {B : Nat} {A : Option Addr} {n c n' c' : Nat} (h : Low B (.slice A n c)) : Low B (.slice A n' c') := fun g hg => h g (by cases A <;> exact hg)
theorem RI.low {k : IntKind} {B : Nat} {w w' : World} {v : Value} {xs : List Int} (h : RI k w v xs) (hl : Low B v) (hb : Below B w w') : RI k w' v xs := h.move fun g hg => hb.block g (hl g hg)
theorem Rdr.c0 {w : World} {B br : Nat} {vb vp vo : Value} {out : List Int} (h : Rdr w B br vb vp vo out) : w.cell? ⟨br,0,none⟩ = some vb := by rw [cell_of_row w br 0 _ _ _ h.blk]; rfl
theorem Rdr.c1 {w : World} {B br : Nat} {vb vp vo : Value} {out : List Int} (h : Rdr w B br vb vp vo out) : w.cell? ⟨br,1,none⟩ = some vp := by rw [cell_of_row w br 1 _ _ _ h.blk]; rfl
theorem Rdr.c2 {w : World} {B br : Nat} {vb vp vo : Value} {out : List Int} (h : Rdr w B br vb vp vo out) : w.cell? ⟨br,2,none⟩ = some vo := by rw [cell_of_row w br 2 _ _ _ h.blk]; rfl
theorem Rdr.fz {w : World} {B br : Nat} {vb vp vo : Value} {out : List Int} (h : Rdr w B br vb vp vo out) (j : Nat) : w.frozen? ⟨br,j,none⟩ = false := frozen_of_row w br j _ _ h.blk
/-- The state of a reader: its bytes, its kinds and what it has put, the first two below B. -/
structure RS (w : World) (B br : Nat) (vb vp vo : Value) (b pal out : List Int) : Prop where
  rd : Rdr w B br vb vp vo out
  rb : RI .u8 w vb b
  rp : RI .u8 w vp pal
  lb : Low B vb
  lp : Low B vp

theorem rtake_ok {w : World} {B br : Nat} {vb vp vo : Value} {b pal out : List Int} (h : RS w B br vb vp vo b pal out) (m : Int) (h0 : 0 ≤ m) (hm : m ≤ b.length) :
    Calls Try.prog 38 #[.pointer (some ⟨br,0,none⟩), .int .i64 m] w fun e w' => ∃ A c vb', e = .returned (.slice A m.toNat c) ∧ Hid (RI .u8 w' (.slice A m.toNat c) (b.take m.toNat)) ∧ Hid (Low B (.slice A m.toNat c)) ∧ Hid (RS w' B br vb' vp vo (b.drop m.toNat) pal out) ∧ Below B w w' := by
  obtain ⟨n, rfl⟩ := Int.eq_ofNat_of_zero_le h0
  rw [Int.toNat_natCast]
  obtain ⟨A, c, e, hc1, hc2, hcell⟩ := h.rb
  subst e
  have hB : Below B w (w.setCell ⟨br, 0, none⟩ (.slice (cutA A c n) (b.length - n) (c - n))) := (Below.refl B w).setCell h.rd.le _
  refine (take_ok br A b.length c n w h.rd.c0 (h.rd.fz 0) (by omega) hc1).mono ?_
  rintro e w' ⟨rfl, rfl⟩
  have hS : RS (w.setCell ⟨br, 0, none⟩ (.slice (cutA A c n) (b.length - n) (c - n))) B br (.slice (cutA A c n) (b.length - n) (c - n)) vp vo (b.drop n) pal out := by
    refine ⟨⟨?_, ?_, h.rd.ne, h.rd.le⟩, (h.rb.low h.lb hB).drop n (by omega), h.rp.low h.lp hB, ?_, h.lp⟩
    · rw [heap_setCell_same w br 0 _ _ _ h.rd.blk]; rfl
    · exact h.rd.own.kept fun g hg => heap_setCell_other w _ _ _ (fun e => h.rd.ne (by rw [hg, e]))
    · intro g hg
      rw [cutA_block (n := b.length) (c := c)] at hg
      exact h.lb g hg
  exact ⟨A, c, _, rfl, (h.rb.low h.lb hB).take n (by omega), low_len h.lb, hS, hB⟩
theorem rtake_no {w : World} {B br : Nat} {vb vp vo : Value} {b pal out : List Int} (h : RS w B br vb vp vo b pal out) (m : Int) (h0 : 0 ≤ m) (hm : (b.length : Int) < m) :
    Calls Try.prog 38 #[.pointer (some ⟨br,0,none⟩), .int .i64 m] w fun e w' => e = .panicked (broke 3) ∧ w = w' := by
  obtain ⟨n, rfl⟩ := Int.eq_ofNat_of_zero_le h0
  obtain ⟨A, c, e, hc1, hc2, hcell⟩ := h.rb
  subst e
  exact take_no br A b.length c n w h.rd.c0 (by omega)
theorem rputs_ok {w : World} {B br : Nat} {vb vp vo : Value} {b pal out : List Int} (h : RS w B br vb vp vo b pal out) (p n : Int) (h0 : 0 ≤ p) (h256 : p < 256) (h1 : p < pal.length) (hn0 : 0 ≤ n) (hn : out.length + n ≤ 40000) :
    Calls Try.prog 44 #[.pointer (some ⟨br,0,none⟩), .int .u8 p, .int .i64 n] w fun e w' => e = .returned (.tuple #[]) ∧ (∃ vo', Hid (RS w' B br vb vp vo' b pal (out ++ List.replicate n.toNat (pal.getD p.toNat 0)))) ∧ Below B w w' := by
  obtain ⟨A, c, e, hc1, hc2, hcell⟩ := h.rp
  subst e
  obtain ⟨ad, e, hx⟩ := hcell p.toNat (by omega)
  subst e
  have hlow : ad.block < B := h.lp _ rfl
  refine (puts_ok B br vb vo ad pal.length c out p (pal.getD p.toNat 0) n w h.rd hlow h0 h256 h1 hx hn0 hn).mono ?_
  rintro e w' ⟨rfl, ⟨vo', hr⟩, hB⟩
  exact ⟨rfl, ⟨vo', ⟨hr, h.rb.low h.lb hB, h.rp.low h.lp hB, h.lb, h.lp⟩⟩, hB⟩
theorem rputs_no {w : World} {B br : Nat} {vb vp vo : Value} {b pal out : List Int} (h : RS w B br vb vp vo b pal out) (p n : Int) (h0 : 0 ≤ p) (h256 : p < 256) (h1 : (pal.length : Int) ≤ p) :
    Calls Try.prog 44 #[.pointer (some ⟨br,0,none⟩), .int .u8 p, .int .i64 n] w fun e w' => e = .panicked (broke 4) ∧ w = w' := by
  obtain ⟨A, c, e, hc1, hc2, hcell⟩ := h.rp
  subst e
  exact puts_no br vb vo A pal.length c p n w h.rd.blk h0 h256 h1

/-- What becomes of a reader that reads form 1 or 2. -/
def Reads (r : Except Int (List Int × List Int)) (w : World) (B br : Nat) (vp : Value) (pal : List Int) (e : Ending) (w' : World) : Prop :=
  match r with
  | .error c => e = .panicked (broke c) ∧ Below B w w'
  | .ok (b', out') => e = .returned (.tuple #[]) ∧ (∃ vb' vo', RS w' B br vb' vp vo' b' pal out') ∧ Below B w w'
theorem Reads.error {c : Int} {w : World} {B br : Nat} {vp : Value} {pal : List Int} {w' : World} {r : Except Int (List Int × List Int)} (hr : r = .error c) (hb : Below B w w') : Reads r w B br vp pal (.panicked (broke c)) w' := by subst hr; exact ⟨rfl, hb⟩
theorem Reads.ok {b' out' : List Int} {vb' vo' : Value} {w : World} {B br : Nat} {vp : Value} {pal : List Int} {w' : World} {r : Except Int (List Int × List Int)} (hr : r = .ok (b', out')) (hs : RS w' B br vb' vp vo' b' pal out') (hb : Below B w w') : Reads r w B br vp pal (.returned (.tuple #[])) w' := by subst hr; exact ⟨rfl, ⟨vb', vo', hs⟩, hb⟩

end Go.Proofs.Ytpakcmcoafbgkaa.Cx
